/- The law StackWhole, walked. -/
import Derived.Test.YtcohhfndaogikaaWhole
import Derived.Test.YtcohhfndaogikaaOnce
import Derived.LoopTactic
import Derived.Deep.DeepCutAuto
import Derived.Deep.RegionHeld3
import Derived.Deep.QuietTactic
import Derived.BigQuiet
import Derived.Deep.RegionLaw
namespace Go.Proofs.Ytcohhfndaogikaa
set_option linter.unusedVariables false
set_option linter.unusedSimpArgs false
open Go Go.RowKit
set_option maxRecDepth 100000
set_option maxHeartbeats 4000000

theorem number_is (a n q : Int) (w : World) (h : 1 ≤ n) (h2 : n ≤ 4611686018427387904) (e : a % n = q) : Calls Try.prog 16 #[.int .i64 a, .int .i64 n] w fun e w' => e = .returned (.int .i64 q) ∧ w = w' := by
  subst e; exact number_c a n w h h2
theorem number_q (a n q : Int) (w : World) (k : Nat) (h : 1 ≤ n) (h2 : n ≤ 4611686018427387904) (e : a % n = q) : Calls Try.prog 16 #[.int .i64 a, .int .i64 n] (w.drewN k) fun e w'' => e = .returned (.int .i64 q) ∧ ∃ m, w'' = w.drewN m :=
  Calls.quiet_of_same ((number_is a n q _ h h2 e).mono fun _ _ ⟨p, q⟩ => ⟨p, q.symm⟩)
theorem number_e2 (v n : Int) (w : World) (h : 1 ≤ n) (h2 : n ≤ 4611686018427387904) : Calls Try.prog 16 #[.int .i64 v, .int .i64 n] w fun e w' => ∃ q : Nat, e = .returned (.int .i64 q) ∧ (q : Int) < n ∧ w = w' := by
  have hb := mod_bd v n h
  obtain ⟨q, hq⟩ := Int.eq_ofNat_of_zero_le hb.1
  refine (number_c v n w h h2).mono ?_
  rintro e w' ⟨rfl, rfl⟩
  exact ⟨q, by rw [hq], by omega, rfl⟩
abbrev loc0 : Loc := ⟨none, none, .slice none 0 0, .slice none 0 0, .slice none 0 0⟩
abbrev wk0 : Wk := ⟨.no, [], []⟩
theorem gang0 (w : World) (B S : Nat) : Gang Loc.foot (WkRep B S) w B (List.replicate 4 loc0) (List.replicate 4 wk0) :=
  ⟨fun i c k hc hk => by
    have h1 := List.eq_of_mem_replicate (List.mem_of_getElem? hc)
    have h2 := List.eq_of_mem_replicate (List.mem_of_getElem? hk)
    subst h1 h2
    exact ⟨⟨rfl, rfl, rfl⟩, Row.nil _ _ _, Row.nil _ _ _⟩, by simp [Loc.foot, Loc.segs, List.replicate], by simp [Loc.foot, Loc.segs, List.replicate], rfl, rfl⟩
theorem stAll0 {n : Nat} {l : List Int} (h : StRep 0 2 n (n + 2) l 0 (baseL n)) : StAll 0 2 n (n + 2) 0 l 0 (baseL n) (List.replicate 4 wk0) :=
  ⟨h, by decide, fun i k hk => by
    have h2 := List.eq_of_mem_replicate (List.mem_of_getElem? hk)
    subst h2
    exact rfl, by simp [Wk.all, List.replicate]⟩
theorem flat_take_succ {α : Type} (f : α → List Int) {ws : List α} {j : Nat} {k : α} (h : ws[j]? = some k) : ((ws.take (j + 1)).map f).flatten = ((ws.take j).map f).flatten ++ f k := by
  rw [List.take_add_one, h]
  simp
theorem flat_take_len {α : Type} (f : α → List Int) (ws : List α) (j : Nat) : ((ws.take j).map f).flatten.length ≤ (ws.map f).flatten.length := by
  conv => rhs; rw [← List.take_append_drop j ws]
  rw [List.map_append, List.flatten_append, List.length_append]
  omega
theorem StAll.lens {hd lk n N T : Nat} {C : Int} {l L : List Int} {ws : List Wk} (h : StAll hd lk n N C l T L ws) : L.length + ((ws.map Wk.all).flatten).length = n := by
  have := h.perm.length_eq
  rw [baseL_len, List.length_append] at this
  exact this
theorem StAll.all_len {hd lk n N T : Nat} {C : Int} {l L : List Int} {ws : List Wk} {i : Nat} {k : Wk} (h : StAll hd lk n N C l T L ws) (hi : ws[i]? = some k) : k.has.length + k.puts.length ≤ n := by
  have h1 := h.lens
  obtain ⟨R, h2, _⟩ := flat_set Wk.all ws i k hi
  have h3 := h2.length_eq
  rw [List.length_append] at h3
  have h4 : k.all.length = k.has.length + k.puts.length := by simp [Wk.all]
  omega
theorem StAll.has_len {hd lk n N T : Nat} {C : Int} {l L : List Int} {ws : List Wk} {i : Nat} {k : Wk} (h : StAll hd lk n N C l T L ws) (hi : ws[i]? = some k) (hn : n ≤ 9) : k.has.length ≤ 1000 := by
  have := h.all_len hi
  omega
theorem once_i (a : Int) (v : Value) (L : List Int) (n : Nat) (w : World) (ha : a = n) (h : Reads .i64 w v L) (hp : L.Perm (baseL n)) (hn : n ≤ 100000) :
    Calls Try.prog 58 #[v, .int .i64 a] w fun e w' => e = .returned (.bool true) ∧ Keeps w w' := by subst ha; exact once_c v L n w h hp hn
/-- What the loop keeps. -/
def WInv (w wr : World) (m b S pa n : Nat) (C : Int) : Prop := ∃ (l : List Int) (T : Nat) (L : List Int) (cs : List Loc) (ws : List Wk),
  WA w wr m b S pa (pa + 1) (pa + 1 + 1) (pa + 1 + 1 + 1) n C l (cs.map Loc.p) (cs.map Loc.o) (cs.map Loc.h) (cs.map Loc.u) cs ws ∧ StAll 0 2 n (n + 2) C l T L ws
theorem stackWhole_core (n : Int) (v : Value) (zs : List Int) (w : World) (hr : Reads .i64 w v zs) (hl : zs.length ≤ 120) :
    Calls Try.prog 12 #[.int .i64 n, v] w fun e w' => e = .returned (.bool true) ∧ Keeps w w' := by
  obtain ⟨sa, cap, rfl, hrr⟩ := hr
  have HR := Lib.hid hrr
  have hk0 := mod_bd n 9 (by omega)
  obtain ⟨kn, hkn⟩ := Int.eq_ofNat_of_zero_le hk0.1
  have hkn9 : kn < 9 := by omega
  have HK := Lib.hid hkn
  have hkI : Hid (1 + (kn : Int) = ((kn + 1 : Nat) : Int)) := Lib.hid (by omega)
  obtain ⟨l0, hl0⟩ : ∃ l0, stFill 0 2 (kn + 1) (List.replicate (kn + 1 + 2) 0) = l0 := ⟨_, rfl⟩
  have RS0 : StRep 0 2 (kn + 1) (kn + 1 + 2) l0 0 (baseL (kn + 1)) := by
    rw [← hl0]
    exact StRep.fill (StOk.zero _ (by omega)) (.inl (by omega)) (by omega)
  have HZ := Lib.hid hl0
  have HRS := Lib.hid RS0
  have hl' : ¬ (120 : Int) < zs.length := by omega
  clear hrr hk0 hkn hl0 RS0
  go_enter Try.func12, Try.ntmps12
  go_wp2_with (first
    | (go_at_call 39; refine (stackFirst_c _).mono ?_; rintro e w' ⟨rfl, K0⟩)
    | (go_at_call 16; refine (number_is _ _ _ _ (by omega) (by omega) HK.out).mono ?_; rintro e w' ⟨rfl, rfl⟩)
    | (go_at_call 42; refine (table_i _ (kn + 1) hkI.out _ (by omega) (by omega)).mono ?_; rintro e w' ⟨m, b, S, rfl, hkk, hm, hb, hSs, M, HS⟩; have k0s := K0.size; have K0 := K0.trans hkk; have hm := Nat.le_trans k0s hm; have hb := Nat.le_trans k0s hb; have nSm := hS_ne HS M)
    | (go_at_call 46; refine (fill_c HS M (by omega) (by omega) (by omega) (by omega)).mono ?_; rintro e w' ⟨rfl, hu, M⟩; rw [HZ.out] at M; have HS := HS.upd hu nSm; have K0 := K0.upd hu (ge_mb hm hb)))
  have szK := K0.size
  generalize hpa : w'.heap.size = pa at *
  go_loopw [13] (fun iv wr => ∃ i : Nat, i ≤ zs.length ∧ iv = .int .i64 i ∧ WInv w wr m b S pa (kn + 1) i) (fun iv _ => zs.length - (intOf iv).toNat)
  case atStart =>
    subst hpa
    refine ⟨0, by omega, rfl, l0, 0, _, List.replicate 4 loc0, List.replicate 4 wk0, ⟨(((HS.alloc _).alloc _).alloc _).alloc _, ⟨_, _, (((M.alloc _).alloc _).alloc _).alloc _, by omega⟩, gang0 _ _ _, (((Has.new _ _ _).alloc _).alloc _).alloc _, ((Has.new1 _ _ _ _).alloc _).alloc _, (Has.new2 _ _ _ _ _).alloc _, Has.newAt (by simp), by omega, (((K0.alloc _).alloc _).alloc _).alloc _, hm, hb, szK, by omega, by omega, by omega⟩, stAll0 HRS.out⟩
  case round =>
    clear M HS K0 nSm hkk hu
    obtain ⟨i, hi, rfl, W⟩ := hrel
    have hi1 : Hid (((i : Int) + 1) = ((i + 1 : Nat) : Int)) := Lib.hid (by omega)
    by_cases hlt : i < zs.length
    · obtain ⟨bl, off, rfl, hab, hc⟩ := HR.out (by rintro rfl; simp at hlt)
      have c1 := hc i zs[i] (List.getElem?_eq_getElem hlt)
      obtain ⟨l, T, L, cs, ws, H, A⟩ := W
      rw [← H.keeps.cell hab] at c1
      clear hc
      generalize zs[i] = z at *
      have hz := mod_bd z 4 (by omega)
      obtain ⟨r, hr⟩ := Int.eq_ofNat_of_zero_le hz.1
      have hr4 : r < 4 := by omega
      have hq := mod_bd (wrap64 (z.tdiv 4)) 64 (by omega)
      obtain ⟨q, hq64⟩ : ∃ q, wrap64 (z.tdiv 4) % 64 = q := ⟨_, rfl⟩
      rw [hq64] at hq
      obtain ⟨hq0, hq1⟩ := hq
      have HRr := Lib.hid hr
      have HQ := Lib.hid hq64
      have hlt' : (i : Int) < zs.length := by omega
      have r0 : (0 : Int) ≤ (r : Int) := by omega
      have r4 : (r : Int) < 4 := by omega
      clear hr hz hq64
      go_wp2
      have HN1 := Lib.hid (fun k => number_q z 4 r wr k (by omega) (by omega) HRr.out)
      have HN2 := Lib.hid (fun k => number_q (wrap64 (z.tdiv 4)) 64 q wr k (by omega) (by omega) HQ.out)
      go_quiet ((go_at_call 16; first | (with_reducible exact HN1.out _) | (with_reducible exact HN2.out _) | (set_option pp.deepTerms false in set_option pp.deepTerms.threshold 3 in trace_state; fail)))
      go_step
      go_step
      go_step
      generalize hW : wr.drewN _ = W1
      have H := H.later (show Keeps wr W1 by rw [← hW]; ((repeat' (first | (with_reducible exact Keeps.refl _) | (with_reducible assumption) | (with_reducible refine Keeps.drewN ?_ _) | (with_reducible refine Keeps.drew ?_) | (with_reducible refine Keeps.alloc ?_ _) | (with_reducible refine Keeps.setCell ?_ ?_ _) | (with_reducible refine Keeps.trans ?_ (After.keeps _)) | (with_reducible refine Keeps.trans ?_ (by with_reducible assumption)) | go_size)); (first | done | fail)))
      clear hW
      go_cut [] (fun wc => WInv w wc m b S pa (kn + 1) ((i : Int) + 1))
      case first =>
        clear HN1 HN2 HR
        have rc : r < cs.length := by rw [H.gang.clen]; exact hr4
        have rw_ : r < ws.length := by rw [H.gang.wlen]; exact hr4
        obtain ⟨c, hc⟩ : ∃ c, cs[r]? = some c := ⟨_, List.getElem?_eq_getElem rc⟩
        obtain ⟨k, hk⟩ : ∃ k, ws[r]? = some k := ⟨_, List.getElem?_eq_getElem rw_⟩
        have cp := H.parr.cellv (optrs_at (show (cs.map Loc.p)[r]? = some c.p by simp [hc]))
        have co := H.oarr.cellv (optrs_at (show (cs.map Loc.o)[r]? = some c.o by simp [hc]))
        have ch : W1.cell? ⟨pa + 1 + 1, r, none⟩ = some c.h := H.harr.cellv (by simp [hc])
        have cu : W1.cell? ⟨pa + 1 + 1 + 1, r, none⟩ = some c.u := H.uarr.cellv (by simp [hc])
        have md := (H.gang.rep r c k hc hk).md
        have mk := A.md r k hk
        have HC := Lib.hid hc
        have HKk := Lib.hid hk
        have hC : (i : Int) ≤ 120 := by omega
        cases hm : k.md with
        | pu s =>
          rw [hm] at md mk
          obtain ⟨mo, g, mp, hr⟩ := md
          rw [mp] at cp
          rw [optr_some] at cp
          have HM := Lib.hid hm
          have HP := Lib.hid mp
          have HL := Lib.hid A.rep.ok
          have HOk := Lib.hid (mk.inv.ok (by omega))
          have AA := Lib.hid (A.pu hk hm (by omega))
          have HS4 : Hid (decide (s.ph < 4) = true) := Lib.hid (decide_eq_true mk.ph)
          clear mk hm mo mp hr A co ch hc hk
          by_cases h4 : 4 ≤ (puStep 0 l s).ph
          · have HD4 := Lib.hid h4
            have HD : Hid (decide (4 ≤ (puStep 0 l s).ph) = true) := Lib.hid (decide_eq_true h4)
            clear h4
            have fu := H.uarr.frozen r
            have fp := H.parr.frozen r
            go_wp2_with (first
              | (go_at_call 56; refine (H.pu HC.out HKk.out HM.out HP.out HL.out HOk.out (by omega)).mono ?_; rintro e w' ⟨rfl, H⟩; have cp : World.cell? _ ⟨pa, r, none⟩ = some (.pointer (some ⟨g, 0, none⟩)) := (H.parr.cellv (optrs_at (show (cs.map Loc.p)[r]? = some c.p by simp [HC.out]))).trans (by rw [HP.out]; rfl); have fu := H.uarr.frozen r; have fp := H.parr.frozen r; have cu : World.cell? _ ⟨pa + 1 + 1 + 1, r, none⟩ = some c.u := H.uarr.cellv (by simp [HC.out]))
              | (go_at_call 57; refine (puDone_c (H.puRep HC.out (List.getElem?_set_self rw_) rfl HP.out)).mono ?_; rintro e w' ⟨rfl, rfl⟩; rw [HD.out]))
            obtain ⟨cs', H⟩ := H.donePu HC.out HKk.out HD4.out
            obtain ⟨T', L', A⟩ := AA.out
            go_meet
            case rel => exact ⟨_, _, _, _, _, H, A⟩
          · have HD4 := Lib.hid h4
            have HD : Hid (decide (4 ≤ (puStep 0 l s).ph) = false) := Lib.hid (decide_eq_false h4)
            clear h4
            go_wp2_with (first
              | (go_at_call 56; refine (H.pu HC.out HKk.out HM.out HP.out HL.out HOk.out (by omega)).mono ?_; rintro e w' ⟨rfl, H⟩; have cp : World.cell? _ ⟨pa, r, none⟩ = some (.pointer (some ⟨g, 0, none⟩)) := (H.parr.cellv (optrs_at (show (cs.map Loc.p)[r]? = some c.p by simp [HC.out]))).trans (by rw [HP.out]; rfl))
              | (go_at_call 57; refine (puDone_c (H.puRep HC.out (List.getElem?_set_self rw_) rfl HP.out)).mono ?_; rintro e w' ⟨rfl, rfl⟩; rw [HD.out]))
            have H := H.keepPu HD4.out
            obtain ⟨T', L', A⟩ := AA.out
            go_meet
            case rel => exact ⟨_, _, _, _, _, H, A⟩
        | po s =>
          rw [hm] at md mk
          obtain ⟨mo, g, mp, hr⟩ := md
          rw [mo] at cp
          rw [mp] at co
          rw [optr_none] at cp
          rw [optr_some] at co
          have HM := Lib.hid hm
          have HO := Lib.hid mo
          have HP := Lib.hid mp
          have HL := Lib.hid A.rep.ok
          have HOk := Lib.hid (mk.inv.ok (by omega))
          have hinv := (mk.inv.step A.rep.ok)
          have HGl : Hid ((poStep 0 2 (kn + 1) l s).got.length ≤ 1000) := Lib.hid (by have := hinv.len; have := hinv.c1; omega)
          have HNh : Hid (k.has.length ≤ 1000) := Lib.hid (A.has_len hk (by omega))
          have AA := Lib.hid (A.po hk hm (by omega))
          have HS4 : Hid (decide (s.ph < 3) = true) := Lib.hid (decide_eq_true mk.ph)
          clear mk hm mo mp hr A ch cu hc hk hinv
          by_cases h4 : 3 ≤ (poStep 0 2 (kn + 1) l s).ph
          · have HD4 := Lib.hid h4
            have HD : Hid (decide (3 ≤ (poStep 0 2 (kn + 1) l s).ph) = true) := Lib.hid (decide_eq_true h4)
            clear h4
            go_wp2_with (first
              | (go_at_call 48; refine (H.po HC.out HKk.out HM.out HP.out HL.out HOk.out (by omega)).mono ?_; rintro e w' ⟨v', rfl, H⟩; have co : World.cell? _ ⟨pa + 1, r, none⟩ = some (.pointer (some ⟨g, 0, none⟩)) := (H.oarr.cellv (optrs_at (show (cs.map Loc.o)[r]? = some c.o by simp [HC.out]))).trans (by rw [HP.out]; rfl))
              | (go_at_call 49; refine (poDone_c (H.poRep (List.getElem?_set_self rc) (List.getElem?_set_self rw_) rfl HP.out)).mono ?_; rintro e w' ⟨rfl, rfl⟩; rw [HD.out]))
            have HPo := H.oarr
            have HOC : Hid ((optrs (cs.map Loc.o))[r]? = some (.pointer (some ⟨g, 0, none⟩))) := Lib.hid ((optrs_at (show (cs.map Loc.o)[r]? = some c.o by simp [HC.out])).trans (by rw [HP.out]; rfl))
            have HHC : Hid (((cs.map Loc.h).toArray)[r]? = some c.h) := Lib.hid (by simp [HC.out])
            have ch : World.cell? _ ⟨pa + 1 + 1, r, none⟩ = some c.h := H.harr.cellv HHC.out
            have RH : Row w.heap.size 3 _ c.h (ivals k.has) := (H.gang.rep r _ _ (List.getElem?_set_self rc) (List.getElem?_set_self rw_)).has
            go_region_law (first
                | (go_simp; (go_at_call 50; refine (got_c ((H.poRep (List.getElem?_set_self rc) (List.getElem?_set_self rw_) rfl HP.out).keeps (by ((repeat' (first | (with_reducible exact Keeps.refl _) | (with_reducible assumption) | (with_reducible refine Keeps.drewN ?_ _) | (with_reducible refine Keeps.drew ?_) | (with_reducible refine Keeps.alloc ?_ _) | (with_reducible refine Keeps.setCell ?_ ?_ _) | (with_reducible refine Keeps.trans ?_ (After.keeps _)) | (with_reducible refine Keeps.trans ?_ (by with_reducible assumption)) | go_size)); (first | done | fail)))) HD4.out (Nat.le_trans HGl.out (by decide))).mono ?_; rintro e w' ⟨v2, rfl, hk2, R2⟩; have H := H.later (Keeps.trans (by ((repeat' (first | (with_reducible exact Keeps.refl _) | (with_reducible assumption) | (with_reducible refine Keeps.drewN ?_ _) | (with_reducible refine Keeps.drew ?_) | (with_reducible refine Keeps.alloc ?_ _) | (with_reducible refine Keeps.setCell ?_ ?_ _) | (with_reducible refine Keeps.trans ?_ (After.keeps _)) | (with_reducible refine Keeps.trans ?_ (by with_reducible assumption)) | go_size)); (first | done | fail))) hk2); have HPo := H.oarr; have RH : Row w.heap.size 3 _ c.h (ivals k.has) := (H.gang.rep r _ _ (List.getElem?_set_self rc) (List.getElem?_set_self rw_)).has; have ch : World.cell? _ ⟨pa + 1 + 1, r, none⟩ = some c.h := H.harr.cellv HHC.out; have co : World.cell? _ ⟨pa + 1, r, none⟩ = some (.pointer (some ⟨g, 0, none⟩)) := H.oarr.cellv HOC.out))
                | (refine step_append_ints (by rfl) _ _ (by rfl) _ (by rfl) (by rfl) RH R2.src (by have := HNh.out; have := HGl.out; omega) H.keeps.size ?_; intro v3 w3 R3 U3 O3; obtain ⟨a3, c3, hv3, -⟩ := R3.form; generalize List.length _ = n3 at hv3; subst hv3; have HH3 := H.harr.upd U3 (fun hx => RH.ne H.harr (by decide) _ hx rfl); have ch : World.cell? _ ⟨pa + 1 + 1, r, none⟩ = some c.h := HH3.cellv HHC.out; have fh := HH3.frozen r; have HPo := H.oarr.upd U3 (fun hx => RH.ne H.oarr (by decide) _ hx rfl); have co : World.cell? _ ⟨pa + 1, r, none⟩ = some (.pointer (some ⟨g, 0, none⟩)) := HPo.cellv HOC.out; have fo := HPo.frozen r))
            all_goals (
              go_wp2
              obtain ⟨cs', H⟩ := H.donePo HC.out HKk.out HD4.out U3 R3 O3
              obtain ⟨T', L', A⟩ := AA.out
              go_meet
              case rel => exact ⟨_, _, _, _, _, H, A⟩)
          · have HD4 := Lib.hid h4
            have HD : Hid (decide (3 ≤ (poStep 0 2 (kn + 1) l s).ph) = false) := Lib.hid (decide_eq_false h4)
            clear h4
            go_wp2_with (first
              | (go_at_call 48; refine (H.po HC.out HKk.out HM.out HP.out HL.out HOk.out (by omega)).mono ?_; rintro e w' ⟨v', rfl, H⟩; have co : World.cell? _ ⟨pa + 1, r, none⟩ = some (.pointer (some ⟨g, 0, none⟩)) := (H.oarr.cellv (optrs_at (show (cs.map Loc.o)[r]? = some c.o by simp [HC.out]))).trans (by rw [HP.out]; rfl))
              | (go_at_call 49; refine (poDone_c (H.poRep (List.getElem?_set_self rc) (List.getElem?_set_self rw_) rfl HP.out)).mono ?_; rintro e w' ⟨rfl, rfl⟩; rw [HD.out]))
            obtain ⟨cs', H⟩ := H.keepPo HC.out HD4.out
            obtain ⟨T', L', A⟩ := AA.out
            go_meet
            case rel => exact ⟨_, _, _, _, _, H, A⟩
        | no =>
          rw [hm] at md mk
          obtain ⟨mp, mo, mv⟩ := md
          rw [mp, optr_none] at cp
          rw [mo, optr_none] at co
          have RH := (H.gang.rep r c k hc hk).has
          have HNh : Hid (k.has.length ≤ 1000) := Lib.hid (A.has_len hk (by omega))
          have hnh := HNh.out
          have HM := Lib.hid hm
          have HMP := Lib.hid mp
          have HMO := Lib.hid mo
          by_cases hv : q % 2 = 1 ∧ 1 ≤ k.has.length
          · obtain ⟨hv1, hv2⟩ := hv
            have hv3 : (q % 2 == 1) = true := by simp [hv1]
            have AA : Hid (∀ c : Nat, 1 ≤ c → c ≤ k.has.length → itemsB (kn + 1) (k.has.take c) ∧ StAll 0 2 (kn + 1) (kn + 1 + 2) ((i : Int) + 1) l T L (ws.set r ⟨.pu (pu0 (k.has.take c)), k.has.drop c, k.has.take c⟩)) := Lib.hid (fun c h1 h2 => A.newPu hk hm (by omega) c h1 h2)
            obtain ⟨hb0, caph, hcur, hvh, hh0, -⟩ := RH.formI (by rintro e; rw [e] at hv2; simp at hv2)
            have RC := RH.cut
            have hcp := RH
            rw [hvh] at ch RC hcp
            have hcap := hcp.capLe
            have HHC : Hid (((cs.map Loc.h).toArray)[r]? = some (.slice (some ⟨hb0, 0, none⟩) k.has.length caph)) := Lib.hid (by simp [hc, hvh])
            have HV := Lib.hid hvh
            have HRC := Lib.hid RC
            have hne : Hid (k.has ≠ []) := Lib.hid (by rintro e; rw [e] at hv2; simp at hv2)
            clear A hm mp mo mv hvh hc hk RH RC hcp mk hh0
            have tk : True := trivial
            go_wp2_with (first
              | (go_at_call 16; refine (number_e2 _ _ _ ?_ ?_).mono ?_; (focus omega); (focus omega); rintro e w' ⟨cn, rfl, hcn, rfl⟩; have hcn2 : cn < k.has.length := (by omega); have hb1 : (1 : Int) + cn ≤ (caph : Int) := (by omega); have hb2 : (0 : Int) ≤ 1 + cn := (by omega); have hb3 : ((1 : Int) + cn).toNat = 1 + cn := (by omega); have hb4 : 1 + cn ≤ caph := (by omega); have hb5 : (1 : Int) + cn ≤ (k.has.length : Int) := (by omega); obtain ⟨tk1, htk⟩ : ∃ t, k.has.take (1 + cn) = t := ⟨_, rfl⟩; have htl : tk1.length = 1 + cn := (by rw [← htk, List.length_take]; omega); have HTl := Lib.hid htl; have HTk := Lib.hid htk; have HTne : Hid (tk1 ≠ []) := Lib.hid (by rintro rfl; rw [List.length_nil] at htl; omega); clear htl htk)
              | (at_builtin; have t_ := tk; clear t_ tk; refine wpList_append_ints (B := w.heap.size) (v := .slice none 0 0) (xs := []) (ys := tk1) rfl _ _ rfl _ rfl rfl (Row.nil _ _ _) (by rw [← HTk.out]; exact (HRC.out.take (by omega)).src (by rw [HTk.out]; exact HTne.out)) (by have := HTl.out; rw [List.length_nil]; omega) H.keeps.size ?_; intro v1 w1 R1 U1 O1; rw [List.nil_append] at R1; obtain ⟨a1, c1', hv1, -⟩ := R1.reads; subst hv1; have H := H.later U1.keeps)
              | (go_at_call 41; refine (mkPush_c tk1 a1 c1' R1.reads R1.capLe H.hS (by have h := (AA.out (1 + cn) (by omega) (by omega)).1; rw [HTk.out] at h; exact h) (by have := HTl.out; omega)).mono ?_; rintro e w' ⟨g, v2, rfl, hk2, hg2, hr2⟩; have H := H.newPu HC.out HKk.out HM.out hk2 hg2 hr2; have ch : World.cell? _ ⟨pa + 1 + 1, r, none⟩ = some (.slice (some ⟨hb0, 0, none⟩) k.has.length caph) := H.harr.cellv HHC.out))
            have hc1 : Hid ((cs.set r ⟨some g, none, v2, c.h, c.u⟩)[r]? = some ⟨some g, none, v2, c.h, c.u⟩) := Lib.hid (List.getElem?_set_self rc)
            have hk1 : Hid ((ws.set r ⟨.pu (pu0 tk1), k.has, k.puts⟩)[r]? = some ⟨.pu (pu0 tk1), k.has, k.puts⟩) := Lib.hid (List.getElem?_set_self rw_)
            have HRC := H.gang.rep r _ _ hc1.out hk1.out |>.has |>.cut
            rw [HV.out] at HRC
            generalize hwb : w'.heap.size = sb at *
            go_region_law (first
              | (refine step_append_ints (B := sb) (v := .slice none 0 0) (xs := []) (ys := tk1) (by rfl) _ _ (by rfl) _ (by rfl) (by rfl) (Row.nil _ _ _) (by rw [← HTk.out]; exact ((HRC.keeps (Keeps.refl _).drew).take (by omega)).src (by rw [HTk.out]; exact HTne.out)) (by have := HTl.out; rw [List.length_nil]; omega) (Nat.le_of_eq hwb.symm) ?_; intro v5 w5 R5 U5 O5; rw [List.nil_append] at R5; have K5 : Keeps w' w5 := (Keeps.refl w').drew.trans U5.keeps; have H := H.newU hc1.out hk1.out K5 (by rw [hwb]; exact R5); have cp : World.cell? _ ⟨pa, r, none⟩ = some (.pointer none) := (H.parr.cellv (optrs_at (show (cs.map Loc.p)[r]? = some none by simp [HC.out, HMP.out]))); have fp := H.parr.frozen r; have cu : World.cell? _ ⟨pa + 1 + 1 + 1, r, none⟩ = some c.u := H.uarr.cellv (by simp [HC.out]); have fu := H.uarr.frozen r; obtain ⟨a5, c5, hv5, -⟩ := R5.reads; generalize List.length _ = n5 at hv5; subst hv5))
            obtain ⟨W3, hW3, H⟩ : ∃ W3, W3 = (w5.setCell ⟨pa, r, none⟩ (.pointer (some ⟨g, 0, none⟩))).setCell ⟨pa + 1 + 1 + 1, r, none⟩ (.slice a5 n5 c5) ∧ WA w W3 m b S pa (pa + 1) (pa + 1 + 1) (pa + 1 + 1 + 1) (kn + 1) (↑i) l ((cs.map Loc.p).set r (some g)) (cs.map Loc.o) (cs.map Loc.h) ((cs.map Loc.u).set r (.slice a5 n5 c5)) _ _ := ⟨_, rfl, (H.setP r (some g)).setU r _⟩
            rw [← hW3]
            clear hW3
            have ch : W3.cell? ⟨pa + 1 + 1, r, none⟩ = some (.slice (some ⟨hb0, 0, none⟩) k.has.length caph) := H.harr.cellv HHC.out
            have fh := H.harr.frozen r
            have hc2 := List.getElem?_set_self (a := ({ p := some g, o := none, v := v2, h := c.h, u := .slice a5 n5 c5 } : Loc)) (List.getElem?_eq_some_iff.1 hc1.out).1
            have hk2 := List.getElem?_set_self (a := ({ md := .pu (pu0 tk1), has := k.has, puts := tk1 } : Wk)) (List.getElem?_eq_some_iff.1 hk1.out).1
            have HRC := H.gang.rep r _ _ hc2 hk2 |>.has |>.cut
            rw [HV.out] at HRC
            by_cases hcc : caph = 1 + cn
            · go_wp2_with (at_builtin; refine wpList_append_ints (B := W3.heap.size) (v := .slice none 0 0) (xs := []) (ys := k.has.drop (1 + cn)) rfl _ _ rfl _ rfl rfl (Row.nil _ _ _) (HRC.srcDrop (by omega) _ (fun h => absurd h (by omega)) (by omega)) (by rw [List.length_nil, List.length_drop]; omega) (Nat.le_refl _) ?_; intro v6 w6 R6 U6 O6; rw [List.nil_append] at R6; obtain ⟨a6, c6, hv6, -⟩ := R6.reads; generalize List.length _ = n6 at hv6; subst hv6; have H := H.newH hc2 hk2 U6.keeps R6; have ch : World.cell? _ ⟨pa + 1 + 1, r, none⟩ = some (.slice (some ⟨hb0, 0, none⟩) k.has.length caph) := H.harr.cellv HHC.out; have fh := H.harr.frozen r)
              have A := (AA.out (1 + cn) (by omega) (by omega)).2
              rw [HTk.out] at A
              have H := (H.setH r (.slice a6 n6 c6)).more
              simp only [List.set_set] at H
              have H := H.maps (c := c) (c' := ⟨some g, none, v2, .slice a6 n6 c6, .slice a5 n5 c5⟩) HC.out rfl (.inr rfl) (.inl ⟨rfl, HMO.out.symm⟩) (.inr rfl) (.inr rfl)
              go_meet
              case rel => exact ⟨_, _, _, _, _, H, A⟩
            · go_wp2_with (at_builtin; refine wpList_append_ints (B := W3.heap.size) (v := .slice none 0 0) (xs := []) (ys := k.has.drop (1 + cn)) rfl _ _ rfl _ rfl rfl (Row.nil _ _ _) (HRC.srcDrop (by omega) _ (fun _ => by rw [Nat.zero_add]) (by omega)) (by rw [List.length_nil, List.length_drop]; omega) (Nat.le_refl _) ?_; intro v6 w6 R6 U6 O6; rw [List.nil_append] at R6; obtain ⟨a6, c6, hv6, -⟩ := R6.reads; generalize List.length _ = n6 at hv6; subst hv6; have H := H.newH hc2 hk2 U6.keeps R6; have ch : World.cell? _ ⟨pa + 1 + 1, r, none⟩ = some (.slice (some ⟨hb0, 0, none⟩) k.has.length caph) := H.harr.cellv HHC.out; have fh := H.harr.frozen r)
              have A := (AA.out (1 + cn) (by omega) (by omega)).2
              rw [HTk.out] at A
              have H := (H.setH r (.slice a6 n6 c6)).more
              simp only [List.set_set] at H
              have H := H.maps (c := c) (c' := ⟨some g, none, v2, .slice a6 n6 c6, .slice a5 n5 c5⟩) HC.out rfl (.inr rfl) (.inl ⟨rfl, HMO.out.symm⟩) (.inr rfl) (.inr rfl)
              go_meet
              case rel => exact ⟨_, _, _, _, _, H, A⟩
          · have AA : Hid (StAll 0 2 (kn + 1) (kn + 1 + 2) ((i : Int) + 1) l T L (ws.set r ⟨.po ⟨0, 0, 1 + q / 8, 0, 0, []⟩, k.has, k.puts⟩)) := Lib.hid (A.newPo hk hm (by omega) _)
            obtain ⟨ah, caph, hvh, -⟩ := RH.reads
            rw [hvh] at ch
            by_cases hv1 : q % 2 = 1
            · have hv3 : (q % 2 == 1) = true := by simp [hv1]
              have hl0 : k.has.length = 0 := by omega
              have hl1 : ¬ (0 : Int) < (k.has.length : Int) := by omega
              clear A hm mp mo mv hvh hc hk RH mk hv hl0
              go_wp2_with ((go_at_call 47; refine (mkPop_c (B := W1.heap.size) (1 + q / 8) (1 + q / 8) (.inr (.inl ⟨by omega, by omega, rfl⟩))).mono ?_; rintro e w' ⟨g, rfl, hk2, hg2, hr2⟩; have H := H.newPo HC.out HKk.out HM.out hk2 hg2 hr2; have co : World.cell? _ ⟨pa + 1, r, none⟩ = some (.pointer none) := (H.oarr.cellv (optrs_at (show (cs.map Loc.o)[r]? = some none by simp [HC.out, HMO.out]))); have fo := H.oarr.frozen r))
              have H := (H.setO r (some g)).more
              have H := H.maps (c := c) HC.out rfl (.inl ⟨rfl, HMP.out.symm⟩) (.inr rfl) (.inl ⟨rfl, rfl⟩) (.inl ⟨rfl, rfl⟩)
              go_meet
              case rel => exact ⟨_, _, _, _, _, H, AA.out⟩
            · have hv3 : (q % 2 == 1) = false := by simp [hv1]
              clear A hm mp mo mv hvh hc hk RH mk hv
              go_wp2_with ((go_at_call 47; refine (mkPop_c (B := W1.heap.size) (1 + q / 8) (1 + q / 8) (.inr (.inl ⟨by omega, by omega, rfl⟩))).mono ?_; rintro e w' ⟨g, rfl, hk2, hg2, hr2⟩; have H := H.newPo HC.out HKk.out HM.out hk2 hg2 hr2; have co : World.cell? _ ⟨pa + 1, r, none⟩ = some (.pointer none) := (H.oarr.cellv (optrs_at (show (cs.map Loc.o)[r]? = some none by simp [HC.out, HMO.out]))); have fo := H.oarr.frozen r))
              have H := (H.setO r (some g)).more
              have H := H.maps (c := c) HC.out rfl (.inl ⟨rfl, HMP.out.symm⟩) (.inr rfl) (.inl ⟨rfl, rfl⟩) (.inl ⟨rfl, rfl⟩)
              go_meet
              case rel => exact ⟨_, _, _, _, _, H, AA.out⟩
      case rest =>
        clear H A HN1 HN2 c1 HR HRr HQ
        obtain ⟨l, T, L, cs, ws, H, A⟩ := hcut
        obtain ⟨cc, x, M, -⟩ := H.mem
        have HLs : Hid (stList 0 2 (kn + 1) l = L) := Lib.hid A.rep.list
        have HOk := Lib.hid A.rep.ok
        have AA := Lib.hid A
        clear A
        go_wp2_with (go_at_call 37; refine (list_c H.hS M HOk.out).mono ?_; rintro e w' ⟨v5, rfl, hk5, R5⟩; rw [HLs.out] at R5; have szH := H.keeps.size; have hd5 : ∀ y ∈ ownB v5, y ∉ (cs.map Loc.foot).flatten := (fun y hy hy2 => by have h1 := (R5.own y hy).1; have h2 := (H.gang.own y hy2).2; omega); have H := H.later hk5)
        have R5 := R5.mono szH
        have HH := Lib.hid H
        have RR := Lib.hid R5
        have DD := Lib.hid hd5
        clear H R5 hd5 M
        go_loopw [19, 20] (fun av jv wq => ∃ j : Nat, j ≤ 4 ∧ jv = .int .i64 j ∧ Row w.heap.size 3 wq av (ivals (L ++ ((ws.take j).map Wk.all).flatten)) ∧ (∀ y ∈ ownB av, y ∉ (cs.map Loc.foot).flatten) ∧ WA w wq m b S pa (pa + 1) (pa + 1 + 1) (pa + 1 + 1 + 1) (kn + 1) ((i : Int) + 1) l (cs.map Loc.p) (cs.map Loc.o) (cs.map Loc.h) (cs.map Loc.u) cs ws) (fun _ jv _ => 4 - (intOf jv).toNat)
        case atStart => exact ⟨0, by omega, rfl, by simpa using RR.out, DD.out, HH.out⟩
        case round =>
          clear HH RR DD
          obtain ⟨j, hj, rfl, R, hd, H⟩ := hrel
          have hj1 : Hid (((j : Int) + 1) = ((j + 1 : Nat) : Int)) := Lib.hid (by omega)
          by_cases hlt : j < 4
          · have rc : j < cs.length := by rw [H.gang.clen]; exact hlt
            have rw_ : j < ws.length := by rw [H.gang.wlen]; exact hlt
            obtain ⟨c, hc⟩ : ∃ c, cs[j]? = some c := ⟨_, List.getElem?_eq_getElem rc⟩
            obtain ⟨k, hk⟩ : ∃ k, ws[j]? = some k := ⟨_, List.getElem?_eq_getElem rw_⟩
            have HC := Lib.hid hc
            have HKk := Lib.hid hk
            have hlj : (j : Int) < 4 := by omega
            have j0 : (0 : Int) ≤ (j : Int) := by omega
            have HHC : Hid (((cs.map Loc.h).toArray)[j]? = some c.h) := Lib.hid (by simp [hc])
            have HUC : Hid (((cs.map Loc.u).toArray)[j]? = some c.u) := Lib.hid (by simp [hc])
            have HLn : Hid ((L ++ ((ws.take j).map Wk.all).flatten).length ≤ 100 ∧ k.has.length ≤ 100 ∧ k.puts.length ≤ 100) := Lib.hid (by
              have h1 := AA.out.lens
              have h2 := AA.out.all_len hk
              have h3 := flat_take_len Wk.all ws j
              rw [List.length_append]
              omega)
            have HFl := Lib.hid (flat_take_succ Wk.all hk)
            generalize hfl : (L ++ ((ws.take j).map Wk.all).flatten) = F at R HLn
            have HF := Lib.hid hfl
            have HHA := H.harr
            have HUA := H.uarr
            have szr := H.keeps.size
            clear hc hk rc rw_ hfl
            go_wp2
            go_region_held3 (fun y => y.cell? ⟨pa + 1 + 1, j, none⟩ = some c.h ∧ y.cell? ⟨pa + 1 + 1 + 1, j, none⟩ = some c.u) (first | exact ⟨HHA.drew.cellv HHC.out, HUA.drew.cellv HUC.out⟩ | exact ⟨HHA.cellv HHC.out, HUA.cellv HUC.out⟩)
              (first
                | (refine step_append_ints (B := w.heap.size) (by rfl) _ _ (by rfl) _ (by rfl) (by rfl) R.drew ((H.gang.rep j _ _ HC.out HKk.out).has.drew).src (by have := HLn.out; omega) szr ?_; intro v6 w6 R6 U6 O6; have hd6 : ∀ y ∈ ownB v6, y ∉ (cs.map Loc.foot).flatten := (fun y hy hy2 => by rcases O6 y hy with h1 | h1; (exact hd y h1 hy2); (have h2 := (H.gang.own y hy2).2; have h4 : y = wr.heap.size := h1; omega)); have H := (H.later (Keeps.refl _).drew).off R.drew (Nat.le_refl _) hd U6; have HHA := H.harr; have HUA := H.uarr)
                | (refine step_append_ints (B := w.heap.size) (by rfl) _ _ (by rfl) _ (by rfl) (by rfl) R6 ((H.gang.rep j _ _ HC.out HKk.out).puts).src (by have := HLn.out; rw [List.length_append]; omega) H.keeps.size ?_; intro v7 w7 R7 U7 O7; have hd7 : ∀ y ∈ ownB v7, y ∉ (cs.map Loc.foot).flatten := (fun y hy hy2 => by rcases O7 y hy with h1 | h1; (exact hd6 y h1 hy2); (have h2 := (H.gang.own y hy2).2; omega)); have H := H.off R6 (Nat.le_refl _) hd6 U7; have HHA := H.harr; have HUA := H.uarr))
            go_wp2
            go_roundw
            case rel => exact ⟨j + 1, by omega, by go_num, by rw [HFl.out, ← List.append_assoc, HF.out]; unfold Wk.all; rw [← List.append_assoc]; exact R7, hd7, H⟩
            case measure => simp [intOf]; omega
          · obtain rfl : j = 4 := by omega
            have e4 : ws.take 4 = ws := List.take_of_length_le (Nat.le_of_eq H.gang.wlen)
            rw [e4] at R
            have HP : Hid ((L ++ (ws.map Wk.all).flatten).Perm (baseL (kn + 1))) := Lib.hid AA.out.perm
            have HRd := Lib.hid R.reads
            clear e4 R hj hd
            go_wp2_with (go_at_call 58; refine (once_i _ _ _ (kn + 1) _ hkI.out HRd.out HP.out (by omega)).mono ?_; rintro e w' ⟨rfl, hk9⟩; have H := H.later hk9)
            go_roundw
            case rel =>
              exact ⟨i + 1, by omega, by go_num, by rw [← hi1.out]; exact ⟨_, _, _, _, _, H, AA.out⟩⟩
            case measure => simp [intOf]; omega
    · obtain rfl : i = zs.length := by omega
      obtain ⟨l, T, L, cs, ws, H, A⟩ := W
      go_wp2
      go_ret
      exact ⟨rfl, H.keeps⟩
theorem stackWhole_c (n : Int) (v : Value) (zs : List Int) (w : World) (hr : Reads .i64 w v zs) :
    Calls Try.prog 12 #[.int .i64 n, v] w fun e w' => e = .returned (.bool true) ∧ Keeps w w' := by
  by_cases hl : zs.length ≤ 120
  · exact stackWhole_core n v zs w hr hl
  · obtain ⟨sa, cap, rfl, -⟩ := hr
    have hl' : (120 : Int) < zs.length := by omega
    clear hl
    go_enter Try.func12, Try.ntmps12
    go_wp2_with (go_at_call 39; refine (stackFirst_c _).mono ?_; rintro e w' ⟨rfl, K0⟩)
    go_ret
    exact ⟨rfl, K0⟩
end Go.Proofs.Ytcohhfndaogikaa
