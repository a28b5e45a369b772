/- The law RootsOnce, walked. -/
import Derived.Test.YtaecapjicphdkaaRootsOnceQ
import Derived.Test.YtaecapjicphdkaaReads
import Derived.LoopTactic
namespace Go.Proofs.Ytaecapjicphdkaa
set_option linter.unusedVariables false
set_option linter.unusedSimpArgs false
open Go Go.RowKit
set_option maxRecDepth 100000
set_option maxHeartbeats 40000000

@[go_sem] theorem root_field0 (a b c d : Int) (w : World) : Sem.run Try.prog (Instr.field 42 (.agg #[.int .i64 a, .int .i64 b, .int .i64 c, .int .i64 d]) 0) w = .ok (.int .i64 a) w := by kernel_rfl
@[go_sem] theorem root_field1 (a b c d : Int) (w : World) : Sem.run Try.prog (Instr.field 42 (.agg #[.int .i64 a, .int .i64 b, .int .i64 c, .int .i64 d]) 1) w = .ok (.int .i64 b) w := by kernel_rfl
@[go_sem] theorem root_field2 (a b c d : Int) (w : World) : Sem.run Try.prog (Instr.field 42 (.agg #[.int .i64 a, .int .i64 b, .int .i64 c, .int .i64 d]) 2) w = .ok (.int .i64 c) w := by kernel_rfl
theorem rootsOnce_core (n class_ : Int) (v : Value) (zs : List Int) (k : Nat) (w : World) (hr : Reads .i64 w v zs) (hl : zs.length ≤ 60) (hk : 2 + n % 4 = k) (hk2 : 2 ≤ k) (hk5 : k ≤ 5) :
    Calls Try.prog 3 #[.int .i64 n, .int .i64 class_, v] w fun e w' => e = .returned (.bool true) ∧ Keeps w w' := by
  obtain ⟨i0, hi, hz0, hz1, hz2⟩ := info_parts info_pend
  obtain ⟨a, cap, rfl, hrr⟩ := hr
  have HRd := Lib.hid hrr
  obtain ⟨q, hq⟩ : ∃ q, n % 4 = q := ⟨_, rfl⟩
  have HQ := Lib.hid hq
  rw [hq] at hk
  have hk' : 2 + q = (k : Int) := hk
  clear hrr hq hk
  have hE0 : Hid (genN ((rtL 2).getD (4 + (0 : Int).toNat) 0 / 4294967296) = 1) := Lib.hid (by rw [show (0 : Int).toNat = 0 from rfl, rtL_root 2 (by omega) 0 (by omega)]; decide)
  have St : Hid (StRep 1 (4 + 2) 2 (13 + 2 * 2) (rtL 2) 0 (0 :: [1])) := Lib.hid (rtL_ok 2 (by omega) (by omega))
  have hcl0 : 0 ≤ clampI class_ := by unfold clampI; split <;> split <;> omega
  have hcl3 : clampI class_ ≤ 3 := by unfold clampI; split <;> split <;> omega
  go_enter Try.func3, Try.ntmps3
  go_wp2_with (first
    | (go_at_call 4; refine (rootsFirst_c _).mono ?_; rintro e w' ⟨rfl, hk0⟩)
    | (go_at_call 5; refine (number_c _ _ _ (by omega) (by omega)).mono ?_; rintro e w' ⟨rfl, rfl⟩; rw [HQ.out])
    | (go_at_call 6; refine (madeR_c 2 _ (by omega) (by omega)).mono ?_; rintro e w' ⟨m, b, R, S, W, g0, gb, Pl, Sp, E, rfl, hkk, ⟨hm, hb, hRs, hSs, -⟩, -, M, HR, HS, -, -, -⟩; have k0s := hk0.size; have K0 := hk0.trans hkk; have hm := Nat.le_trans k0s hm; have hb := Nat.le_trans k0s hb)
    | (go_at_call 7; refine (creates_some class_ (by omega) (by omega) (by omega) HR HS M St.out (by omega)).mono ?_; rintro e w' ⟨rfl, hu, HR, HS, Lb, x9, M, HSt, -⟩; rw [hE0.out] at M ⊢; have K0 := K0.upd hu (by simp; exact ⟨hm, hb⟩)))
  have hok := Lib.hid HSt.ok
  rw [show (4 + (0 : Int).toNat) = 4 from rfl, rw1_root hcl0 hcl3] at M
  have M : Mem w' m b 17 (emem Lb (clampI class_) 0) 5 x9 := M
  generalize clampI class_ = cls at *
  clear HS HSt hE0 St hu hkk k0s hRs hSs
  go_loopw [15, 16] (fun v i wr => ∃ (j : Nat) (gs : List Nat), j ≤ k ∧ i = .int .i64 j ∧ gs.length = j ∧ Row w.heap.size 35 wr v (gs.map ptr) ∧ EMachs w.heap.size wr R gs (List.replicate j en0) ∧ Has wr R (rootsOf m 1 1 8 (2 : Nat) 0 1 S) 74 ∧ (∃ x, Mem wr m b 17 (emem Lb cls 0) 5 x) ∧ Keeps w wr) (fun _ i _ => k - (intOf i).toNat)
  case atStart => exact ⟨0, [], by omega, rfl, rfl, Row.nil _ _ _, ⟨rfl, by simp, by simp, by simp⟩, HR, ⟨_, M⟩, K0⟩
  case round =>
    obtain ⟨j, gs, hj, rfl, hgl, RW, HM, HR, ⟨x, M⟩, K0⟩ := hrel
    obtain ⟨ad, cap1, hv, _⟩ := RW.form
    have hgl2 : (gs.map ptr).length = j := by simp [hgl]
    rw [hgl2] at hv
    subst hv
    by_cases hlt : j < k
    · have hlt' : (j : Int) < k := by omega
      have hown : wr.ownsRow w.heap.size 35 1 (.slice ad j cap1) j (gs.map ptr) := by
        have h := RW
        unfold Row at h
        rwa [hgl2] at h
      have hltg := HM.lt
      go_wp2_with (first
        | (go_at_call 8; refine (mkEnd_c 0 1 HR (by omega) (by decide)).mono ?_; rintro e w' ⟨g, rfl, hk2_, hgs, HA⟩; have M := M.keeps hk2_; have HR := HR.keeps hk2_; have HM := HM.keeps hk2_; have hown := own_keeps hown hk2_; have hg2 := Nat.le_trans K0.size hgs; have K2 := K0.trans hk2_; have nr1 := own_ne hown HA (by decide); have nr2 := own_ne hown M.hg (by decide); have nr3 := own_ne hown M.hb (by decide); have nr4 := own_ne hown HR (by decide); have nr5 := HM.own hown; have hng : g ∉ gs := fun hx => (by have := hltg g hx; omega); have sz2 := K2.size)
        | (at_builtin; refine wpList_append_own _ rfl _ _ 34 rfl w.heap.size 35 i0 _ 1 8 Try.underlying34 hi hz0 hz1 hz2 rfl (by decide) _ _ _ rfl (own_keeps hown ((Keeps.refl _).alloc _)) ⟨w'.heap.size, 0, none⟩ 1 1 [ptr g] rfl rfl (news_one (Has.new _ _ _)) (by intro u hu; simp at hu; subst hu; rfl) (by unfold maxLen; omega) (by omega) (by simp; omega) ?_; intro v1 w1 hown1 hgrow1 hnil1; have hU := Upd.grown hgrow1; have HR := (HR.alloc (.cells #[ptr g] 35)).upd hU (fun hx => nr4 _ hx rfl); have M := (M.alloc (.cells #[ptr g] 35)).upd hU (fun hx => nr2 _ hx rfl) (fun hx => nr3 _ hx rfl); have HM := (HM.keeps ((Keeps.refl _).alloc (.cells #[ptr g] 35))).upd hU nr5; have HA := (Has.alloc HA (.cells #[ptr g] 35)).upd hU (fun hx => nr1 _ hx rfl); have K3 := (K2.alloc (.cells #[ptr g] 35)).upd hU (fun y hy => (own_lt hown y hy).1); obtain ⟨a1, cap2, hv1⟩ := own_form hown1; subst hv1))
      go_roundw
      case rel =>
        refine ⟨j + 1, gs ++ [g], by omega, by go_num, by simp [hgl], ?_, ?_, HR, ⟨_, M⟩, K3⟩
        · have h := Row.snoc hown1 (by simp [hgl])
          simpa using h
        · rw [List.replicate_succ']
          exact HM.snoc HA hng hg2
      case measure => simp [intOf]; omega
    · have hjk : k = j := by omega
      have hne : gs.map ptr ≠ [] := by
        intro hn
        have h9 := congrArg List.length hn
        rw [List.length_map, hgl] at h9
        simp at h9
        omega
      obtain ⟨a9, c9, hv9, hc9⟩ := RW.form
      simp only [hgl2] at hv9
      cases hv9
      obtain ⟨rb, rfl, hrB, hrl, hcell⟩ := hc9 hne
      subst hjk
      have W0 : OnceAt w wr m b R S rb cap1 k gs Lb cls 0 (List.replicate k en0) := by
        refine ⟨hgl, RW, HM, HR, ⟨x, ?_⟩, ⟨.inl rfl, ?_, ?_⟩, K0, hm, hb, hk5, hok.out, hcl0, hcl3⟩
        · have e1 : ∀ j : Nat, sumE (List.replicate j en0) = 0 := by
            intro j
            induction j with
            | zero => rfl
            | succ j ih => rw [List.replicate_succ]; simp only [sumE, ih]; rfl
          rw [e1]; exact M
        · intro s hs; have := List.eq_of_mem_replicate hs; subst this; exact ⟨rfl, by decide, by decide, .inl ⟨rfl, rfl, .inl rfl⟩⟩
        · have e1 : ∀ j : Nat, cntE (List.replicate j en0) = 0 := by
            intro j
            induction j with
            | zero => rfl
            | succ j ih => rw [List.replicate_succ]; simp only [cntE, ih]; rfl
          exact e1 _
      clear RW HM HR M K0 hcell
      have hnk : ¬ (k : Int) < k := by omega
      go_wp2
      go_loopw [19] (fun i w2 => ∃ (j : Nat) (e : Int) (ss : List En), j ≤ zs.length ∧ i = .int .i64 j ∧ OnceAt w w2 m b R S rb cap1 k gs Lb cls e ss) (fun i _ => zs.length - (intOf i).toNat)
      case atStart => exact ⟨0, 0, _, by omega, rfl, W0⟩
      case round =>
        obtain ⟨j, e, ss, hj, rfl, W1⟩ := hrel
        by_cases hlt : j < zs.length
        · obtain ⟨ab, off, rfl, hab, hc⟩ := HRd.out (by rintro rfl; simp at hlt)
          have c1 := hc j zs[j] (List.getElem?_eq_getElem hlt)
          rw [← W1.keeps.cell hab] at c1
          clear hc
          generalize zs[j] = z at *
          have hz := mod_bd z k (by omega)
          obtain ⟨r, hr⟩ := Int.eq_ofNat_of_zero_le hz.1
          have hrk : r < k := by omega
          have HRr := Lib.hid hr
          clear hr hz
          obtain ⟨g, hg⟩ : ∃ g, gs[r]? = some g := ⟨_, List.getElem?_eq_getElem (by rw [W1.glen]; exact hrk)⟩
          obtain ⟨s, hs⟩ : ∃ s, ss[r]? = some s := ⟨_, List.getElem?_eq_getElem (by rw [W1.slen]; exact hrk)⟩
          have c2 := W1.cell hg
          have HG := Lib.hid hg
          have HS := Lib.hid hs
          clear hg hs
          have hrk' : (r : Int) < k := by omega
          go_wp2_with (first
            | (go_at_call 5; refine (number_c _ _ _ (by omega) (by omega)).mono ?_; rintro e w' ⟨rfl, rfl⟩; rw [HRr.out])
            | (go_at_call 9; refine (W1.step HG.out HS.out).mono ?_; rintro e w' ⟨rfl, e2, W2⟩))
          go_roundw
          case rel => exact ⟨j + 1, e2, _, by omega, by go_num, W2⟩
          case measure => simp [intOf]; omega
        · obtain rfl : j = zs.length := by omega
          have hnl : ¬ (zs.length : Int) < zs.length := by omega
          go_wp2
          go_loopw [20, 21] (fun wv i w2 => ∃ (i' : Nat) (e : Int) (ss : List En), i' ≤ k ∧ i = .int .i64 i' ∧ wv = .int .i64 (cntE (ss.take i')) ∧ Hid (∀ j, j < i' → ∀ s, ss[j]? = some s → s.ph = 2) ∧ OnceAt w w2 m b R S rb cap1 k gs Lb cls e ss) (fun _ i _ => k - (intOf i).toNat)
          case atStart => exact ⟨0, e, ss, by omega, rfl, rfl, Lib.hid (fun j hj => by omega), W1⟩
          case round =>
            obtain ⟨i, e, ss, hik, rfl, rfl, hdone, W3⟩ := hrel
            obtain ⟨x3, M3⟩ := W3.mem
            by_cases hlt : i < k
            · have hlt' : (i : Int) < k := by omega
              obtain ⟨g, hg⟩ : ∃ g, gs[i]? = some g := ⟨_, List.getElem?_eq_getElem (by rw [W3.glen]; exact hlt)⟩
              obtain ⟨s0, hs0⟩ : ∃ s, ss[i]? = some s := ⟨_, List.getElem?_eq_getElem (by rw [W3.slen]; exact hlt)⟩
              have HG := Lib.hid hg
              have hc0 : 0 ≤ s0.c := by have h := (W3.wins.ok s0 (List.mem_of_getElem? hs0)).st; omega
              have HS0 := Lib.hid hs0
              obtain ⟨cw, hcw⟩ : ∃ cw, cntE (ss.take i) = cw := ⟨_, rfl⟩
              have HCW := Lib.hid hcw
              rw [hcw]
              have hcb : 0 ≤ cw ∧ cw ≤ 1 := by have h1 := cntE_take_le ss i; have h2 := W3.wins.cnt; have h3 := W3.wins.e01; omega
              clear hg hs0 hcw M3
              go_wp2
              go_loopw [22] (fun tv w4 => ∃ (t : Nat) (e2 : Int) (s2 : En) (ss2 : List En), t ≤ 20 ∧ tv = .int .i64 t ∧ OnceAt w w4 m b R S rb cap1 k gs Lb cls e2 ss2 ∧ Hid (ss2.take i = ss.take i) ∧ Hid (ss2[i]? = some s2) ∧ (s2.ph = 2 ∨ (t : Int) ≤ s2.c)) (fun tv _ => 20 - (intOf tv).toNat)
              case atStart => exact ⟨0, e, s0, ss, by omega, rfl, W3, Lib.hid rfl, HS0, .inr (by omega)⟩
              case round =>
                obtain ⟨t, e2, s2, ss2, ht, rfl, W4, htake, hs2, hc2⟩ := hrel
                have c2 := W4.cell HG.out
                by_cases ht6 : (t : Int) < 20
                · go_wp2_with (go_at_call 9; refine (W4.step HG.out hs2.out).mono ?_; rintro e w' ⟨rfl, e5, W5⟩)
                  go_roundw
                  case rel =>
                    have hsl := W4.slen
                    obtain ⟨-, -, -, -, -, -, hw1, hw2⟩ := estep W4.llen W4.c0 W4.c3 W4.wins.e01 (W4.wins.ok s2 (List.mem_of_getElem? hs2.out))
                    refine ⟨t + 1, e5, enStep 4 1 (emem Lb cls e2) s2, _, by omega, by go_num, W5, Lib.hid ?_, Lib.hid (List.getElem?_set_self (by omega)), ?_⟩
                    · rw [List.take_set_of_le (by omega)]; exact htake.out
                    · by_cases h3 : s2.ph = 2
                      · left; rw [hw1 h3]; exact h3
                      · right; rw [hw2 h3]; rcases hc2 with h | h
                        · exact absurd h h3
                        · push_cast; omega
                  case measure => simp [intOf]; omega
                · obtain rfl : t = 20 := by omega
                  have hsl := W4.slen
                  have hmem := List.mem_of_getElem? hs2.out
                  have hst := (W4.wins.ok s2 hmem).st
                  have hp3 : s2.ph = 2 := by
                    rcases hc2 with h | h
                    · exact h
                    · omega
                  have hcode : s2.code = 0 ∨ s2.code = 3 := by omega
                  have hchk := (W4.wins.ok s2 hmem).ch
                  clear hst
                  have hrep := W4.machs.rep i g s2 HG.out hs2.out
                  have HD : Hid (decide (2 ≤ s2.ph) = true) := Lib.hid (by rw [hp3]; rfl)
                  obtain ⟨wb, hwb⟩ : ∃ wb, s2.code = wb := ⟨_, rfl⟩
                  have HW := Lib.hid hwb
                  have HCK := Lib.hid hchk
                  rw [hwb] at hcode
                  clear hchk
                  have hfin : Hid (∀ j, j < i + 1 → ∀ s, ss2[j]? = some s → s.ph = 2) := Lib.hid (fun j hj s hs => by
                    by_cases hji : j = i
                    · subst hji; rw [hs2.out] at hs; cases hs; exact hp3
                    · refine hdone.out j (by omega) s ?_
                      have h1 : (ss2.take i)[j]? = some s := by rw [List.getElem?_take_of_lt (by omega)]; exact hs
                      rw [htake.out, List.getElem?_take_of_lt (by omega)] at h1
                      exact h1)
                  have hcnt : Hid (cntE (ss2.take (i + 1)) = cw + (if wb = 0 then 1 else 0)) := Lib.hid (by
                    rw [cntE_take hs2.out, htake.out, HCW.out]; unfold fineI; rw [hwb, hp3]; simp)
                  have hcx := W4.cell HG.out
                  clear hwb hc2
                  rcases hcode with rfl | rfl
                  all_goals
                    go_wp2_with (first
                      | (go_at_call 10; refine (edDone_s hrep).mono ?_; rintro e w' ⟨rfl, rfl⟩; rw [HD.out])
                      | (go_at_call 11; refine (edCode_c hrep).mono ?_; rintro e w' ⟨rfl, rfl⟩; rw [HW.out])
                      | (go_at_call 12; refine (edChunk_c hrep).mono ?_; rintro e w' ⟨rfl, rfl⟩; rw [HCK.out]))
                    go_roundw
                    case rel =>
                      refine ⟨i + 1, e2, ss2, by omega, by go_num, ?_, hfin, W4⟩
                      rw [hcnt.out]
                      simp
                    case measure => simp [intOf]; omega
            · have hki : k = i := by omega
              subst hki
              have hsl := W3.slen
              have hall : ∀ s ∈ ss, s.ph = 2 := by
                intro s hs
                obtain ⟨j, hj, e9⟩ := List.mem_iff_getElem.1 hs
                exact hdone.out j (by omega) s (by rw [List.getElem?_eq_getElem hj, e9])
              have he1 : e = 1 := by
                have hj : 0 < ss.length := by omega
                have h1 := (W3.wins.ok ss[0] (List.getElem_mem hj)).st
                have h2 := hall _ (List.getElem_mem hj)
                omega
              subst he1
              have hcn : cntE (ss.take k) = 1 := by rw [← hsl, List.take_length]; exact W3.wins.cnt
              rw [hcn]
              have HR := W3.hR
              have K3 := W3.keeps
              have hat := emem_at (Lb := Lb) (cls := cls) (e := 1) W3.llen
              have hl4 : 4 < (emem Lb cls 1).length := by unfold emem; rw [List.length_set]; exact W3.llen
              have hat2 : (emem Lb cls 1)[4]? = some 4294967296 := by rw [getD_some hl4, hat]; rfl
              have HPK : Hid (∀ w1, Keeps wr w1 → Calls Try.prog 33 #[.pointer (some ⟨m, 0, none⟩), .int .i64 (crootI 1 1 8 (2 : Nat) 0 1 0)] w1 fun e w' => e = .returned (.int .u64 4294967296) ∧ w1 = w') := Lib.hid (fun w1 hk => mpeek_in (M3.keeps hk) 4 hat2)
              clear hall hcn hdone hat hat2 hl4
              have t0 : True := trivial
              have t1 : True := trivial
              have K4 := Keeps.refl wr
              go_wp2_with (first
                | (go_at_call 13; refine (rsRoot_c (o := 4294967296) _ (HR.keeps K4) (fun w1 hk => HPK.out w1 (K4.trans hk)) (by omega) (by omega)).mono ?_; rintro e w8 ⟨rfl, hk8⟩; have K4 := K4.trans hk8))
              go_ret
              exact ⟨rfl, K3.trans K4⟩
theorem rootsOnce_c (n class_ : Int) (v : Value) (zs : List Int) (w : World) (hr : Reads .i64 w v zs) : Calls Try.prog 3 #[.int .i64 n, .int .i64 class_, v] w fun e w' => e = .returned (.bool true) ∧ Keeps w w' := by
  by_cases hl : zs.length ≤ 60
  · have b1 := mod_bd n 4 (by omega)
    obtain ⟨k, hk⟩ := Int.eq_ofNat_of_zero_le (show 0 ≤ 2 + n % 4 by omega)
    exact rootsOnce_core n class_ v zs k w hr hl hk (by omega) (by omega)
  · obtain ⟨a, cap, rfl, hrr⟩ := hr
    clear hrr
    go_enter Try.func3, Try.ntmps3
    go_wp2_with (go_at_call 4; refine (rootsFirst_c _).mono ?_; rintro e w' ⟨rfl, hk0⟩)
    go_ret
    exact ⟨rfl, hk0⟩
end Go.Proofs.Ytaecapjicphdkaa
