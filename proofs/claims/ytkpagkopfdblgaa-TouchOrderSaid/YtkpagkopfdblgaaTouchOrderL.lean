/- The law TouchOrder, walked. -/
import Derived.Test.YtkpagkopfdblgaaTouchO
import Derived.Test.YtkpagkopfdblgaaConfW
import Derived.Test.YtkpagkopfdblgaaReads
import Derived.LoopTactic
namespace Go.Proofs.Ytkpagkopfdblgaa
set_option linter.unusedVariables false
set_option linter.unusedSimpArgs false
open Go Go.RowKit
set_option maxRecDepth 100000
attribute [local go_sem ↓] Go.wp_at_zero Go.wp_at_succ
set_option maxHeartbeats 4000000

theorem cfg_may2 {p k d s c b : Int} (h : (1 ≤ p ∧ p ≤ 4) ∧ (1 ≤ k ∧ k ≤ 8) ∧ (d = 8 ∨ d = 16) ∧ (1 ≤ s ∧ s ≤ 4) ∧ (0 ≤ c ∧ c ≤ 3) ∧ 1 ≤ b ∧ b ≤ 3) : mayB p k d s c b = true := by
  refine mayB_true.2 ⟨?_, ?_, ?_, ?_, ?_, ?_, ?_⟩ <;> omega
theorem tMem7 (l : List Int) (i : Nat) (o v to_ : Int) : tMem 7 l i o v to_ = l.set i v := by simp [tMem]
theorem tMem9 (l : List Int) (i : Nat) (o v to_ : Int) : tMem 9 l i o v to_ = if o = v then l.set i to_ else l := by simp [tMem]
abbrev adds (a0 a1 a2 : Int) : Array Value := #[.int .u64 a0, .int .u64 a1, .int .u64 a2]
theorem adds_get {a0 a1 a2 a : Int} {r : Nat} (h : [a0, a1, a2][r]? = some a) : (adds a0 a1 a2)[r]? = some (.int .u64 a) := by
  match r, h with
  | 0, h => simp at h; subst h; rfl
  | 1, h => simp at h; subst h; rfl
  | 2, h => simp at h; subst h; rfl
  | n + 3, h => simp at h
theorem touchOrder_c (s a0 a1 a2 : Int) (v : Value) (zs : List Int) (w : World) (s0 : 0 ≤ s) (s1 : s < 18446744073709551616) (_ : 0 ≤ a0) (_ : a0 < 18446744073709551616) (_ : 0 ≤ a1) (_ : a1 < 18446744073709551616) (_ : 0 ≤ a2) (_ : a2 < 18446744073709551616) (hr : Reads .i64 w v zs) :
    Calls Try.prog 10 #[.int .u64 s, .agg (adds a0 a1 a2), v] w fun e w' => e = .returned (.bool true) ∧ Keeps w w' := by
  obtain ⟨sa, cap, rfl, hr⟩ := hr
  have HR := Lib.hid hr
  clear hr
  by_cases hl : 40 < zs.length
  · go_enter Try.func10, Try.ntmps10
    go_wp2_with (go_at_call 53; refine (touchFirst_c _).mono ?_; rintro e w' ⟨rfl, K⟩)
    go_ret
    exact ⟨rfl, by ((repeat' (first | (with_reducible exact Keeps.refl _) | (with_reducible assumption) | (with_reducible refine Keeps.drewN ?_ _) | (with_reducible refine Keeps.drew ?_) | (with_reducible refine Keeps.alloc ?_ _) | (with_reducible refine Keeps.setCell ?_ ?_ _) | (with_reducible refine Keeps.trans ?_ (After.keeps _)) | (with_reducible refine Keeps.trans ?_ (by with_reducible assumption)) | go_size)); (first | done | fail))⟩
  · have hl' : ¬ (40 : Int) < zs.length := by omega
    obtain ⟨us, hus⟩ : ∃ us : List Int, us = [a0, a1, a2] := ⟨_, rfl⟩
    have hul : us.length = 3 := by rw [hus]; rfl
    have HU := Lib.hid hus
    clear hus
    go_enter Try.func10, Try.ntmps10
    go_wp2_with (first
      | (go_at_call 53; refine (touchFirst_c _).mono ?_; rintro e w' ⟨rfl, hk⟩; have HA := (Has.new w (adds a0 a1 a2) 107).keeps hk; have K0 := ((Keeps.refl w).alloc (.cells (adds a0 a1 a2) 107)).trans hk)
      | (go_at_call 54; refine (config_c _ _).mono ?_; rintro e wc ⟨p, k, d, sl, c, b, rfl, hcf, hk⟩; have hm := cfg_may2 hcf; obtain ⟨⟨p1, p2⟩, ⟨k1, k2⟩, hd, ⟨t1, t2⟩, ⟨c1, c2⟩, bb1, bb2⟩ := hcf; have d1 : 8 ≤ d ∧ d ≤ 16 := (by omega); obtain ⟨d1, d2⟩ := d1; clear hd; have K0 := K0.trans hk; have HA := HA.keeps hk; have HC := Has.new wc (cfgA p k d sl c b) 84; have HM := Lib.hid hm; clear hm; have K0 := K0.alloc (.cells (cfgA p k d sl c b) 84); have HA := HA.alloc (.cells (cfgA p k d sl c b) 84); have FX_ := (HC).facts; simp only [blockFacts, listFacts, cellsAt, Nat.reduceAdd, and_true, true_and, and_assoc] at FX_)
      | (go_at_call 55; refine (touchMade_c _ _ _ _ _ _ _ HM.out).mono ?_; rintro e w' ⟨m, bb, W, rfl, hk, hmm, hbb, hWW, M, HW⟩; have hmm := Nat.le_trans K0.size hmm; have hbb := Nat.le_trans K0.size hbb; have K0 := K0.trans hk; have HC := HC.keeps hk; have HA := HA.keeps hk; have nAm := Has.ne HA M.hg (by decide); have nAb := Has.ne HA M.hb (by decide); have nCm := Has.ne HC M.hg (by decide); have nCb := Has.ne HC M.hb (by decide); obtain ⟨ey, ey0, ey1⟩ := wordI_in (u := 0) (i := 0) HM.out (by omega) (by omega) (by omega) (by omega); obtain ⟨cy, hcy⟩ := Int.eq_ofNat_of_zero_le ey0; have HY := Lib.hid hcy; obtain ⟨N, hN⟩ : ∃ N, (lenI p k d sl c b).toNat = N := ⟨_, rfl⟩; have hcyN : cy < N := (by omega); rw [hN] at M; clear ey ey0 ey1 hcy hN; have HO : Hid ((List.replicate N (0 : Int))[cy]? = some 0) := Lib.hid (by rw [List.getElem?_replicate_of_lt hcyN]); generalize hl00 : List.replicate N (0 : Int) = l0 at *)
      | (go_at_call 59; refine (tdoes_c (i := cy) _ _ HW M (by omega) HY.out HO.out (by omega)).mono ?_; rintro e w' ⟨rfl, hu, HW, x2, M, hx2⟩; rw [tMem7] at M; have K0 := K0.upd hu (by simp; exact ⟨hmm, hbb⟩); have HA := HA.upd hu (by simp; exact ⟨nAm, nAb⟩); have HC := HC.upd hu (by simp; exact ⟨nCm, nCb⟩)))
    go_upto_region 14 with fail
    refine wp_named' (fun W1 hW1 => ?_)
    have szK := K0.size
    have HK1 : Keeps w' W1 := by rw [hW1]; ((repeat' (first | (with_reducible exact Keeps.refl _) | (with_reducible assumption) | (with_reducible refine Keeps.drewN ?_ _) | (with_reducible refine Keeps.drew ?_) | (with_reducible refine Keeps.alloc ?_ _) | (with_reducible refine Keeps.setCell ?_ ?_ _) | (with_reducible refine Keeps.trans ?_ (After.keeps _)) | (with_reducible refine Keeps.trans ?_ (by with_reducible assumption)) | go_size)); (first | done | fail))
    have HT : Has W1 (w'.heap.size + 1) (arrP []) 108 := by rw [hW1]; (apply Has.congr; (focus ((repeat (first | (with_reducible assumption) | (with_reducible exact Has.new _ _ _) | (with_reducible exact Has.new1 _ _ _ _) | (with_reducible exact Has.new2 _ _ _ _ _) | (with_reducible refine Has.newAt ?_; (simp; done)) | (with_reducible apply Has.set) | (with_reducible apply Has.far; (case hn => first | assumption | (simp; done) | (intro e_; simp at e_; omega))) | (with_reducible apply Has.alloc) | (with_reducible apply Has.drewN) | (with_reducible apply Has.drew) | (with_reducible refine Has.keeps ?_ (by with_reducible assumption)))))); (first | rfl | (simp; done)))
    have HA := HA.keeps HK1
    have HC := HC.keeps HK1
    have HW := HW.keeps HK1
    have M := M.keeps HK1
    have K0 := K0.trans HK1
    have hTT : w.heap.size ≤ w'.heap.size + 1 := by omega
    generalize w'.heap.size + 1 = T at *
    clear hW1 HK1 hu
    have HL1 : Hid ((l0.set cy s)[cy]? = some s) := Lib.hid (by rw [List.getElem?_set_self (by have := M.len; simp at this; omega)])
    generalize l0.set cy s = l1 at *
    generalize wc.heap.size = C at *
    go_loopw [14] (fun i wr => ∃ (gs : List Nat), gs.length ≤ 3 ∧ i = .int .i64 gs.length ∧ Tms w.heap.size wr m cy gs us (List.replicate gs.length false) ∧ Mem wr m bb N l1 (0 + 1) x2 ∧ Has wr W (wordsOf m p k d sl c b) 155 ∧ Has wr w.heap.size (adds a0 a1 a2) 107 ∧ Has wr C (cfgA p k d sl c b) 84 ∧ Has wr T (arrP gs) 108 ∧ Keeps w wr) (fun i _ => 3 - (intOf i).toNat)
    case atStart => exact ⟨[], by simp, rfl, ⟨rfl, by simp, by simp, by simp⟩, M, HW, HA, HC, HT, K0⟩
    case round =>
      obtain ⟨gs, hq, rfl, HM, M, HW, HA, HC, HT, K0⟩ := hrel
      by_cases hlt : gs.length < 3
      · have hlt' : (gs.length : Int) < 3 := by omega
        obtain ⟨a, ha⟩ : ∃ a, us[gs.length]? = some a := ⟨_, List.getElem?_eq_getElem (by omega)⟩
        have c3 : wr.cell? ⟨w.heap.size, gs.length, none⟩ = some (.int .u64 a) := (HA.cell _).trans (adds_get (by rw [← HU.out]; exact ha))
        have ltA := HA.lt
        have HAT := Lib.hid ha
        have nTW := HW.ne HT (by decide)
        have nTA := HA.ne HT (by decide)
        have nTC := HC.ne HT (by decide)
        have nTm := (M.hg).ne HT (by decide)
        have nTb := (M.hb).ne HT (by decide)
        have nTg : ∀ g ∈ gs, g ∉ [T] := fun g hg => by obtain ⟨i, a, d, -, h⟩ := HM.at_ hul hq hg; simpa using h.ne HT (by decide)
        have hltg : ∀ g ∈ gs, g < wr.heap.size := fun g hg => by obtain ⟨i, a, d, -, h⟩ := HM.at_ hul hq hg; exact h.lt
        have szw := K0.size
        clear ha
        go_wp2_with (go_at_call 58; refine (mkTouch_c 8 0 0 a 0 cy HW (by simp) HY.out (by omega)).mono ?_; rintro e w' ⟨g, rfl, hk, hgs, HG⟩; have HM := HM.keeps hk; have M := M.keeps hk; have HW := HW.keeps hk; have HA := HA.keeps hk; have HC := HC.keeps hk; have HT := HT.keeps hk; have K0 := K0.trans hk; have nTG := HG.ne HT (by decide); have cT : w'.cell? ⟨T, gs.length, none⟩ = some (.pointer none) := (HT.cell _).trans (arrP_no hlt); have Fz := HT.frozen; have ltT := HT.lt; have hgs : wr.heap.size ≤ g := hgs)
        go_roundw
        case rel =>
          have hS : Upd [T] w' (w'.setCell ⟨T, gs.length, none⟩ (.pointer (some ⟨g, 0, none⟩))) := by (repeat (first | (with_reducible exact Upd.refl _ _) | (with_reducible assumption) | (with_reducible refine Upd.setCell ?_ (by first | (left; simp; done) | (right; go_size)) _) | (with_reducible refine Upd.alloc ?_ _) | (with_reducible refine Upd.drewN ?_ _) | (with_reducible refine Upd.drew ?_)))
          refine ⟨gs ++ [g], by simp; omega, by simp; try go_num, ?_, M.upd hS (by simpa using nTm) (by simpa using nTb), HW.upd hS (by simpa using nTW), HA.upd hS (by simpa using nTA), HC.upd hS (by simpa using nTC), (HT.set gs.length _).congr (arrP_set g hlt), K0.upd hS (by simp; exact hTT)⟩
          have h := (HM.upd hS nTg).snoc (g := g) (a := a) ⟨0, by simpa using HG.upd hS (by simpa using nTG), fun _ => rfl⟩ HAT.out (fun hx => by have := hltg g hx; omega) (by omega)
          rw [List.length_append, List.length_singleton, List.replicate_succ']
          exact h
        case measure => simp [intOf]; omega
      · have hg3 : gs.length = 3 := by omega
        have hnl : ¬ (gs.length : Int) < 3 := by omega
        have HS0 : Hid (s = IntKind.u64.wrap (s + sumD us (List.replicate gs.length false))) := Lib.hid (by
          rw [hg3, HU.out]
          simpa [sumD, List.replicate] using wrap_same s s0 s1)
        go_wp2
        go_loopw [17, 18] (fun nv iv wr => ∃ (q : Nat) (ds : List Bool) (now : Int) (l : List Int) (x : Acc) (cc : Int), q ≤ zs.length + 3 ∧ iv = .int .i64 q ∧ nv = .int .u64 now ∧ Hid (now = IntKind.u64.wrap (s + sumD us ds)) ∧ Tms w.heap.size wr m cy gs us ds ∧ Mem wr m bb N l cc x ∧ cc ≤ 1 + q ∧ Hid (l[cy]? = some now) ∧ Has wr W (wordsOf m p k d sl c b) 155 ∧ Has wr w.heap.size (adds a0 a1 a2) 107 ∧ Has wr C (cfgA p k d sl c b) 84 ∧ Has wr T (arrP gs) 108 ∧ Keeps w wr ∧ Hid (∀ j, zs.length + j < q → ds[j]? = some true)) (fun _ iv _ => zs.length + 3 - (intOf iv).toNat)
        case atStart => exact ⟨0, _, s, l1, x2, _, by omega, rfl, rfl, HS0, HM, M, by omega, HL1, HW, HA, HC, HT, K0, Lib.hid (fun j hj => by omega)⟩
        case round =>
          obtain ⟨q, ds, now, l, x, cc, hq, rfl, rfl, hnow, HM, M, hcc, hon, HW, HA, HC, HT, K0, hdn⟩ := hrel
          by_cases hqq : q < zs.length + 3
          · have hqq' : (q : Int) < (zs.length : Int) + 3 := by omega
            have hwho : ∃ r : Nat, r < 3 ∧ ((q < zs.length ∧ ∃ z, zs[q]? = some z ∧ z % 3 = r) ∨ q = zs.length + r) := by
              by_cases h : q < zs.length
              · have hb := mod_bd zs[q] 3 (by omega)
                obtain ⟨r, hr⟩ := Int.eq_ofNat_of_zero_le hb.1
                exact ⟨r, by omega, .inl ⟨h, zs[q], List.getElem?_eq_getElem h, hr⟩⟩
              · exact ⟨q - zs.length, by omega, .inr (by omega)⟩
            obtain ⟨r, hr3, hwho⟩ := hwho
            have hr3' : (r : Int) < 3 := by omega
            obtain ⟨g, hg⟩ : ∃ g, gs[r]? = some g := ⟨_, List.getElem?_eq_getElem (by omega)⟩
            obtain ⟨a, ha⟩ : ∃ a, us[r]? = some a := ⟨_, List.getElem?_eq_getElem (by omega)⟩
            have hdl := HM.len
            obtain ⟨dn, hd⟩ : ∃ d, ds[r]? = some d := ⟨_, List.getElem?_eq_getElem (by omega)⟩
            have HTC : Hid (∀ u, Has u T (arrP gs) 108 → u.cell? ⟨T, r, none⟩ = some (.pointer (some ⟨g, 0, none⟩))) := Lib.hid (fun u h => (h.cell r).trans (arrP_get hg))
            have HAC : Hid (∀ u, Has u w.heap.size (adds a0 a1 a2) 107 → u.cell? ⟨w.heap.size, r, none⟩ = some (.int .u64 a)) := Lib.hid (fun u h => (h.cell r).trans (adds_get (by rw [← HU.out]; exact ha)))
            have c2 := HTC.out _ HT
            have c3 := HAC.out _ HA
            obtain ⟨V, HG, hV⟩ := HM.rep r g a dn hg ha hd
            have hgB := HM.ge g (List.mem_of_getElem? hg)
            have Hg := Lib.hid hg
            have Ha := Lib.hid ha
            have Hd := Lib.hid hd
            have Hw : Hid (q < zs.length ∨ q = zs.length + r) := Lib.hid (by rcases hwho with h | h; exact .inl h.1; exact .inr h)
            have HV := Lib.hid hV
            have nGW := HG.ne HW (by decide)
            have nGA := HG.ne HA (by decide)
            have nGC := HG.ne HC (by decide)
            have nGT := HG.ne HT (by decide)
            have nmW := (M.hg).ne HW (by decide)
            have nmA := (M.hg).ne HA (by decide)
            have nmC := (M.hg).ne HC (by decide)
            have nmT := (M.hg).ne HT (by decide)
            have nbW := (M.hb).ne HW (by decide)
            have nbA := (M.hb).ne HA (by decide)
            have nbC := (M.hb).ne HC (by decide)
            have nbT := (M.hb).ne HT (by decide)
            clear hg ha hd hV
            obtain ⟨hqz, z, hz, hzr⟩ | hqz := hwho
            (
              obtain ⟨bl, off, rfl, hbl, hc⟩ := HR.out (by rintro rfl; simp at hz)
              have c1 := hc q z hz
              rw [← K0.cell hbl] at c1
              have HZ := Lib.hid hzr
              have hqz' : (q : Int) < zs.length := by omega
              clear hc hz hzr
              go_upto_region 28 with (go_at_call 15; refine (number_c _ _ _ (by omega) (by omega)).mono ?_; rintro e w' ⟨rfl, rfl⟩; rw [HZ.out]))
            rotate_left
            (
              have hqz' : ¬ (q : Int) < zs.length := by omega
              have er : (q : Int) - (zs.length : Int) = r := by omega
              go_upto_region 28 with fail
              have er2 : (zs.length : Int) + (r : Int) - (zs.length : Int) = r := by omega
              simp only [er2])
            all_goals (
              cases dn with
              | true =>
                have HG : Has wr g (touchOf .nilFunc 1 m cy a 0 0 V) 157 := HG
                go_wp2_with (go_at_call 60; refine (tDone_nil HG).mono ?_; rintro e w' ⟨rfl, rfl⟩)
                go_roundw
                case rel =>
                  refine ⟨q + 1, ds, now, l, x, cc, by omega, by go_num, rfl, hnow, HM, M, by omega, hon, HW, HA, HC, HT, K0, Lib.hid (fun j hj => ?_)⟩
                  have hw := Hw.out
                  by_cases hjr : j = r
                  · subst hjr; exact Hd.out
                  · exact hdn.out j (by omega)
                case measure => simp [intOf]; omega
              | false =>
                obtain rfl := HV.out rfl
                have HG : Has wr g (touchOf (bound (touchNx 8) g) 0 m cy a 0 0 0) 157 := HG
                go_wp2_with (first
                  | (go_at_call 60; refine (tDone_bound HG).mono ?_; rintro e w' ⟨rfl, rfl⟩)
                  | (go_at_call 61; refine (HM.step M hul Hg.out Ha.out Hd.out hon.out (by omega)).mono ?_; rintro e w' ⟨rfl, hu, HM, HG, x3, M⟩; have HW := HW.upd hu (by simp; exact ⟨nGW.symm, nmW.symm, nbW.symm⟩); have HA := HA.upd hu (by simp; exact ⟨nGA.symm, nmA.symm, nbA.symm⟩); have HC := HC.upd hu (by simp; exact ⟨nGC.symm, nmC.symm, nbC.symm⟩); have HT := HT.upd hu (by simp; exact ⟨nGT.symm, nmT.symm, nbT.symm⟩); have K0 := K0.upd hu (by simp; exact ⟨hgB, hmm, hbb⟩); have c2 := HTC.out _ HT)
                  | (go_at_call 62; refine (res_c HG).mono ?_; rintro e w' ⟨rfl, hk⟩; have HM := HM.keeps hk; have M := M.keeps hk; have HW := HW.keeps hk; have HA := HA.keeps hk; have HC := HC.keeps hk; have HT := HT.keeps hk; have K0 := K0.trans hk; have c3 := HAC.out _ HA))
                go_roundw
                case rel =>
                  refine ⟨q + 1, ds.set r true, _, _, x3, cc + 1, by omega, by go_num, rfl, Lib.hid ?_, HM, M, by omega, Lib.hid ?_, HW, HA, HC, HT, K0, Lib.hid (fun j hj => ?_)⟩
                  · have e1 := sumD_set Ha.out Hd.out
                    have e2 := hnow.out
                    rw [e1, ← wrap_again, ← e2]
                  · have e3 := (List.getElem?_eq_some_iff.1 hon.out).1
                    rw [List.getElem?_set_self e3]
                  · have hw := Hw.out
                    by_cases hjr : j = r
                    · subst hjr; rw [List.getElem?_set_self (by omega)]
                    · rw [List.getElem?_set_ne (fun e => hjr e.symm)]; exact hdn.out j (by omega)
                case measure => simp [intOf]; omega)
          · obtain rfl : q = zs.length + 3 := by omega
            have hnqq : ¬ ((zs.length : Int) + 3 < (zs.length : Int) + 3) := by omega
            have hds : ds = [true, true, true] := by
              have h0 := hdn.out 0 (by omega)
              have h1 := hdn.out 1 (by omega)
              have h2 := hdn.out 2 (by omega)
              have hdl : ds.length = 3 := by rw [← HM.len]; exact hg3
              match ds, hdl, h0, h1, h2 with
              | [x0, x1, x2], _, h0, h1, h2 => simp at h0 h1 h2; rw [h0, h1, h2]
              | [], hdl, _, _, _ => simp at hdl
              | [_], hdl, _, _, _ => simp at hdl
              | [_, _], hdl, _, _, _ => simp at hdl
              | _ :: _ :: _ :: _ :: _, hdl, _, _, _ => simp at hdl
            have hnow2 : now = IntKind.u64.wrap (IntKind.u64.wrap (IntKind.u64.wrap (s + a0) + a1) + a2) := by
              have h := hnow.out
              rw [hds, HU.out] at h
              simp only [sumD, if_true] at h
              rw [h, wrap_all]
            have HNE : Hid (IntKind.u64.wrap (now + 1) ≠ now) := Lib.hid (by rw [hnow2]; exact wrap_ne _)
            have HNB : Hid (0 ≤ now ∧ now < 18446744073709551616) := Lib.hid (by rw [hnow2, IntKind.wrap_u64]; omega)
            have ecmp : (now == IntKind.u64.wrap (IntKind.u64.wrap (IntKind.u64.wrap (s + a0) + a1) + a2)) = true := by rw [beq_iff_eq]; exact hnow2
            have FX_ := (HC).facts; simp only [blockFacts, listFacts, cellsAt, Nat.reduceAdd, and_true, true_and, and_assoc] at FX_
            have c30 : wr.cell? ⟨w.heap.size, 0, none⟩ = some (.int .u64 a0) := HA.cell 0
            have c31 : wr.cell? ⟨w.heap.size, 1, none⟩ = some (.int .u64 a1) := HA.cell 1
            have c32 : wr.cell? ⟨w.heap.size, 2, none⟩ = some (.int .u64 a2) := HA.cell 2
            clear hnow2 hds HM HT hdn hnow
            go_wp2_with (first
              | (go_at_call 63; refine (lword_c _ _ _ _ _ _ _ _ _).mono ?_; rintro e w' ⟨rfl, hk⟩; rw [HY.out]; have M := M.keeps hk; have HW := HW.keeps hk; have HA := HA.keeps hk; have K0 := K0.trans hk; have c30 := HA.cell 0; have c31 := HA.cell 1; have c32 := HA.cell 2)
              | (go_at_call 43; refine (mpeek_in M cy hon.out).mono ?_; rintro e w' ⟨rfl, rfl⟩))
            have ecmp2 : (now != IntKind.u64.wrap (IntKind.u64.wrap (IntKind.u64.wrap (s + a0) + a1) + a2)) = false := by simp [bne, ecmp]
            simp only [ecmp2]
            clear ecmp2 ecmp
            go_loopw [20, 21] (fun wv iv w3 => ∃ (i : Nat) (z o : Int) (l : List Int) (x : Acc) (cc : Int), i ≤ 3 ∧ iv = .int .i64 i ∧ wv = .int .i64 z ∧ ((i = 0 ∧ z = 0 ∧ o = now) ∨ (1 ≤ i ∧ z = 1 ∧ o = IntKind.u64.wrap (now + 1))) ∧ Mem w3 m bb N l cc x ∧ cc ≤ 4 + zs.length + i ∧ Hid (l[cy]? = some o) ∧ Has w3 W (wordsOf m p k d sl c b) 155 ∧ Keeps w w3) (fun _ iv _ => 3 - (intOf iv).toNat)
            case atStart => exact ⟨0, 0, now, l, x, cc, by omega, rfl, rfl, .inl ⟨rfl, rfl, rfl⟩, M, by omega, hon, HW, K0⟩
            case round =>
              clear hon HA c30 c31 c32
              obtain ⟨i, z, o, l3, x3, cc3, hi3, rfl, rfl, hcase, M, hcc3, hon, HW, K0⟩ := hrel
              by_cases hi : i < 3
              · have hi' : (i : Int) < 3 := by omega
                have ltW := HW.lt
                have ltM := M.lt
                have ltM1 := ltM.1
                have ltM2 := ltM.2
                have szW := K0.size
                have hcl := (List.getElem?_eq_some_iff.1 hon.out).1
                obtain ⟨rfl, rfl, ho⟩ | ⟨h1i, rfl, ho⟩ := hcase
                · have HO9 := Lib.hid ho; clear ho
                  have HTN : Hid (tN 9 o now = 1 ∧ tV 9 o = 0) := Lib.hid (by rw [HO9.out]; simp [tN, tV])
                  go_upto_region 40 with (go_at_call 59; refine (tdoes_c (i := cy) (o := o) _ _ HW M (by simp) HY.out hon.out (by omega)).mono ?_; rintro e w' ⟨rfl, hu, HW, x4, M, hx4⟩; rw [HTN.out.1, HTN.out.2]; have K0 := K0.upd hu (by simp; exact ⟨hmm, hbb⟩))
                  refine wp_named' (fun W4 hW4 => ?_)
                  have hS : Keeps w' W4 := by rw [hW4]; ((repeat' (first | (with_reducible exact Keeps.refl _) | (with_reducible assumption) | (with_reducible refine Keeps.drewN ?_ _) | (with_reducible refine Keeps.drew ?_) | (with_reducible refine Keeps.alloc ?_ _) | (with_reducible refine Keeps.setCell ?_ ?_ _) | (with_reducible refine Keeps.trans ?_ (After.keeps _)) | (with_reducible refine Keeps.trans ?_ (by with_reducible assumption)) | go_size)); (first | done | fail))
                  have HR4 : Has W4 w'.heap.size #[.int .i64 0, .int .i64 0, .int .i64 0, .int .i64 0, .int .i64 0, .int .i64 0, .int .i64 1, .int .u64 0] 101 := by rw [hW4]; (apply Has.congr; (focus ((repeat (first | (with_reducible assumption) | (with_reducible exact Has.new _ _ _) | (with_reducible exact Has.new1 _ _ _ _) | (with_reducible exact Has.new2 _ _ _ _ _) | (with_reducible refine Has.newAt ?_; (simp; done)) | (with_reducible apply Has.set) | (with_reducible apply Has.far; (case hn => first | assumption | (simp; done) | (intro e_; simp at e_; omega))) | (with_reducible apply Has.alloc) | (with_reducible apply Has.drewN) | (with_reducible apply Has.drew) | (with_reducible refine Has.keeps ?_ (by with_reducible assumption)))))); (first | rfl | (simp; done)))
                  have HW := HW.keeps hS
                  have M := M.keeps hS
                  have K0 := K0.trans hS
                  clear hW4 hS
                  have FX_ := (HR4).facts; simp only [blockFacts, listFacts, cellsAt, Nat.reduceAdd, and_true, true_and, and_assoc] at FX_
                  go_wp2
                  go_roundw
                  case rel => exact ⟨1, 1, IntKind.u64.wrap (now + 1), _, x4, cc3 + 1, by omega, by go_num, rfl, .inr ⟨by omega, rfl, rfl⟩, M, by omega, Lib.hid (by rw [tMem9, if_pos HO9.out, List.getElem?_set_self hcl]), HW, K0⟩
                  case measure => simp [intOf] <;> omega
                · have HO9 : Hid (o = IntKind.u64.wrap (now + 1)) := Lib.hid ho; clear ho
                  have HTN : Hid (tN 9 o now = 0 ∧ tV 9 o = 0) := Lib.hid (by rw [HO9.out]; simp [tN, tV, HNE.out])
                  go_upto_region 40 with (go_at_call 59; refine (tdoes_c (i := cy) (o := o) _ _ HW M (by simp) HY.out hon.out (by omega)).mono ?_; rintro e w' ⟨rfl, hu, HW, x4, M, hx4⟩; rw [HTN.out.1, HTN.out.2]; have K0 := K0.upd hu (by simp; exact ⟨hmm, hbb⟩))
                  refine wp_named' (fun W4 hW4 => ?_)
                  have hS : Keeps w' W4 := by rw [hW4]; ((repeat' (first | (with_reducible exact Keeps.refl _) | (with_reducible assumption) | (with_reducible refine Keeps.drewN ?_ _) | (with_reducible refine Keeps.drew ?_) | (with_reducible refine Keeps.alloc ?_ _) | (with_reducible refine Keeps.setCell ?_ ?_ _) | (with_reducible refine Keeps.trans ?_ (After.keeps _)) | (with_reducible refine Keeps.trans ?_ (by with_reducible assumption)) | go_size)); (first | done | fail))
                  have HR4 : Has W4 w'.heap.size #[.int .i64 0, .int .i64 0, .int .i64 0, .int .i64 0, .int .i64 0, .int .i64 0, .int .i64 0, .int .u64 0] 101 := by rw [hW4]; (apply Has.congr; (focus ((repeat (first | (with_reducible assumption) | (with_reducible exact Has.new _ _ _) | (with_reducible exact Has.new1 _ _ _ _) | (with_reducible exact Has.new2 _ _ _ _ _) | (with_reducible refine Has.newAt ?_; (simp; done)) | (with_reducible apply Has.set) | (with_reducible apply Has.far; (case hn => first | assumption | (simp; done) | (intro e_; simp at e_; omega))) | (with_reducible apply Has.alloc) | (with_reducible apply Has.drewN) | (with_reducible apply Has.drew) | (with_reducible refine Has.keeps ?_ (by with_reducible assumption)))))); (first | rfl | (simp; done)))
                  have HW := HW.keeps hS
                  have M := M.keeps hS
                  have K0 := K0.trans hS
                  clear hW4 hS
                  have FX_ := (HR4).facts; simp only [blockFacts, listFacts, cellsAt, Nat.reduceAdd, and_true, true_and, and_assoc] at FX_
                  go_wp2
                  go_roundw
                  case rel => exact ⟨i + 1, 1, o, _, x4, cc3 + 1, by omega, by go_num, rfl, .inr ⟨by omega, rfl, HO9.out⟩, M, by omega, Lib.hid (by rw [tMem9, if_neg (by rw [HO9.out]; exact HNE.out)]; exact hon.out), HW, K0⟩
                  case measure => simp [intOf] <;> omega
              · obtain rfl : i = 3 := by omega
                obtain ⟨h0, _⟩ | ⟨_, rfl, _⟩ := hcase
                · omega
                · go_wp2
                  go_ret
                  exact ⟨rfl, K0⟩
end Go.Proofs.Ytkpagkopfdblgaa
