/- The law CellsApart, walked. -/
import Derived.Test.YthlojiefnclgkaaCellsL
import Derived.Test.YthlojiefnclgkaaReads3
import Derived.Deep.DeepCutAuto
namespace Go.Proofs.Ythlojiefnclgkaa
set_option linter.unusedVariables false
set_option linter.unusedSimpArgs false
open Go Go.RowKit
set_option maxRecDepth 100000

/-- What an access tells. -/
def doesV (q o v : Int) : Int := if q = 0 then o else if q = 1 then 0 else if q = 2 then (if o = v then 1 else 0) else o
/-- What a cell holds behind it. -/
def doesN (q o v u : Int) : Int := if q = 0 then o else if q = 1 then v else if q = 2 then (if o = v then u else o) else IntKind.u64.wrap (o + v)
def DoesPost (g b n i : Nat) (l : List Int) (c o q v u : Int) (w : World) (e : Ending) (w' : World) : Prop :=
  ∃ x' : Acc, e = .returned (.int .u64 (doesV q o v)) ∧ Upd [g, b] w w' ∧ Mem w' g b n (l.set i (doesN q o v u)) (c + 1) x'
set_option maxHeartbeats 1000000 in
theorem does_c {w : World} {g b n : Nat} {l : List Int} {c : Int} {x : Acc} (M : Mem w g b n l c x) (i : Nat) {o : Int} (ho : l[i]? = some o) (q v u : Int) (hc : c < 4611686018427387903) :
    Calls Try.prog 51 #[.pointer (some ⟨g, 0, none⟩), .agg #[.int .i64 q, .int .i64 i, .int .u64 v, .int .u64 u]] w (DoesPost g b n i l c o (q % 4) v u w) := by
  have M := M.alloc (.cells #[.int .i64 q, .int .i64 i, .int .u64 v, .int .u64 u] 56)
  have hs := Lib.hid (set_same ho)
  have HO := Lib.hid ho
  clear ho
  have hq : q % 4 = 0 ∨ q % 4 = 1 ∨ q % 4 = 2 ∨ q % 4 = 3 := by omega
  rcases hq with hq | hq | hq | hq
  · have HQ := Lib.hid hq
    rw [hq]
    clear hq
    go_enter Try.func51, Try.ntmps51
    go_wp2_with (first
      | (go_at_call 38; refine (number_c _ _ _ (by omega) (by omega)).mono ?_; rintro e w' ⟨rfl, rfl⟩; rw [HQ.out])
      | (go_at_call 55; refine (mload_in M i HO.out hc).mono ?_; rintro e w' ⟨rfl, hu, M1⟩))
    go_ret
    exact ⟨_, rfl, ((Upd.refl _ w).alloc _).trans hu, by rw [show doesN 0 o v u = o from rfl, hs.out]; exact M1⟩
  · have HQ := Lib.hid hq
    rw [hq]
    clear hq
    go_enter Try.func51, Try.ntmps51
    go_wp2_with (first
      | (go_at_call 38; refine (number_c _ _ _ (by omega) (by omega)).mono ?_; rintro e w' ⟨rfl, rfl⟩; rw [HQ.out])
      | (go_at_call 49; refine (mstore_in M i _ HO.out hc).mono ?_; rintro e w' ⟨rfl, hu, M1⟩))
    go_ret
    exact ⟨_, rfl, ((Upd.refl _ w).alloc _).trans hu, M1⟩
  · have HQ := Lib.hid hq
    rw [hq]
    clear hq
    by_cases hov : o = v
    · subst hov
      go_enter Try.func51, Try.ntmps51
      go_wp2_with (first
        | (go_at_call 38; refine (number_c _ _ _ (by omega) (by omega)).mono ?_; rintro e w' ⟨rfl, rfl⟩; rw [HQ.out])
        | (go_at_call 50; refine (mcas_eq M i _ HO.out hc).mono ?_; rintro e w' ⟨rfl, hu, M1⟩))
      go_ret
      exact ⟨_, by simp [doesV], ((Upd.refl _ w).alloc _).trans hu, by rw [show doesN 2 o o u = u from by simp [doesN]]; exact M1⟩
    · have hne : (o != v) = true := by simpa using hov
      have HN := Lib.hid hne
      have HV := Lib.hid hov
      clear hne hov
      go_enter Try.func51, Try.ntmps51
      go_wp2_with (first
        | (go_at_call 38; refine (number_c _ _ _ (by omega) (by omega)).mono ?_; rintro e w' ⟨rfl, rfl⟩; rw [HQ.out])
        | (go_at_call 50; refine (mcas_ne M i _ _ HO.out hc HN.out).mono ?_; rintro e w' ⟨rfl, hu, M1⟩))
      go_ret
      exact ⟨_, by simp [doesV, HV.out], ((Upd.refl _ w).alloc _).trans hu, by rw [show doesN 2 o v u = o from by simp [doesN, HV.out], hs.out]; exact M1⟩
  · have HQ := Lib.hid hq
    rw [hq]
    clear hq
    go_enter Try.func51, Try.ntmps51
    go_wp2_with (first
      | (go_at_call 38; refine (number_c _ _ _ (by omega) (by omega)).mono ?_; rintro e w' ⟨rfl, rfl⟩; rw [HQ.out])
      | (go_at_call 33; refine (madd_in M i _ HO.out hc).mono ?_; rintro e w' ⟨rfl, hu, M1⟩))
    go_ret
    exact ⟨_, rfl, ((Upd.refl _ w).alloc _).trans hu, M1⟩

theorem number_b (v n : Int) (w : World) (h : 1 ≤ n) (h2 : n ≤ 4611686018427387904) : Calls Try.prog 38 #[.int .i64 v, .int .i64 n] w fun e w' => ∃ z : Nat, e = .returned (.int .i64 z) ∧ (z : Int) < n ∧ w = w' := by
  refine (number_c v n w h h2).mono fun e w' ⟨he, hw⟩ => ?_
  have h0 := Int.emod_nonneg v (show n ≠ 0 by omega)
  have h1 := Int.emod_lt_of_pos v (show 0 < n by omega)
  obtain ⟨z, hz⟩ := Int.eq_ofNat_of_zero_le h0
  exact ⟨z, by rw [he, hz], by omega, hw⟩
theorem rep_at {n p : Nat} (h : p < n) : (List.replicate n (0 : Int))[p]? = some 0 := by rw [List.getElem?_replicate, if_pos h]
theorem wp_named {P : Program} {c : Code} {Q : Exit → Act → World → Prop} {a : Act} {w : World} (h : ∀ W, W = w → c.wp P Q a W) : c.wp P Q a w := h w rfl

set_option maxHeartbeats 4000000 in
theorem cellsApart_c (v : Value) (zs : List (List Int)) (one : Int) (w : World) (hr : ReadsF [.i64, .i64, .u64, .u64] w v zs) (hz4 : ∀ z ∈ zs, z.length = 4 ∧ ∀ (i : Nat) (k : IntKind) (n : Int), [IntKind.i64, .i64, .u64, .u64][i]? = some k → z[i]? = some n → (Lit.int k n).wf = true) : Calls Try.prog 9 #[v, .int .i64 one] w fun e w' => e = .returned (.bool true) ∧ Keeps w w' := by
  obtain ⟨a, cap, rfl, hr⟩ := hr
  have HR := Lib.hid hr
  have HZ := Lib.hid hz4
  clear hr hz4
  by_cases hl : 40 < zs.length
  · go_enter Try.func9, Try.ntmps9
    go_wp2_with (go_at_call 31; refine (cfirst_c _).mono ?_; rintro e w' ⟨rfl, K⟩)
    go_ret
    exact ⟨rfl, by (repeat' (first | (with_reducible exact Keeps.refl _) | (with_reducible assumption) | (with_reducible refine Keeps.drewN ?_ _) | (with_reducible refine Keeps.drew ?_) | (with_reducible refine Keeps.alloc ?_ _) | (with_reducible refine Keeps.setCell ?_ ?_ _) | (with_reducible refine Keeps.trans ?_ (After.keeps _)) | (with_reducible refine Keeps.trans ?_ (by with_reducible assumption)) | go_size))⟩
  · go_enter Try.func9, Try.ntmps9
    go_wp2_with (first
      | (go_at_call 31; refine (cfirst_c _).mono ?_; rintro e w' ⟨rfl, K⟩; have tok1 : True := trivial)
      | (go_at_call 32; have _t := tok1; refine (mnew 5 _ (by omega) (by omega)).mono ?_; rintro e w' ⟨ga, ba, rfl, hk, hg1, hb1, MA⟩; clear tok1; have hg1 := Nat.le_trans K.size hg1; have hb1 := Nat.le_trans K.size hb1; have K := K.trans hk)
      | (go_at_call 32; refine (mnew 5 _ (by omega) (by omega)).mono ?_; rintro e w' ⟨gb, bb, rfl, hk, hg2, hb2, MB⟩; have lA := MA.lt; have MA := MA.keeps hk; have hg3 := Nat.le_trans K.size hg2; have hb3 := Nat.le_trans K.size hb2; have K := K.trans hk)
      | (go_at_call 38; refine (number_b _ _ _ (by omega) (by omega)).mono ?_; rintro e w' ⟨p, rfl, hp, rfl⟩))
    have n1 : ga ≠ gb := by omega
    have n2 : ba ≠ bb := by omega
    have n3 : ga ≠ bb := MA.hg.ne MB.hb (by decide)
    have n4 : ba ≠ gb := fun e => MB.hg.ne MA.hb (by decide) e.symm
    have p5 : p < 5 := by omega
    go_loopw [11] (fun i wr => ∃ (k : Nat) (la lb : List Int) (ca cb o : Int) (xa xb : Acc), k ≤ zs.length ∧ i = .int .i64 k ∧ Mem wr ga ba 5 la ca xa ∧ Mem wr gb bb 5 lb cb xb ∧ Hid (la[p]? = some o ∧ lb[p]? = some o) ∧ Keeps w wr ∧ ca ≤ k ∧ cb ≤ k) (fun i _ => zs.length - (intOf i).toNat)
    case atStart => exact ⟨0, _, _, 0, 0, 0, _, _, by omega, rfl, MA, MB, Lib.hid ⟨rep_at p5, rep_at p5⟩, K, by omega, by omega⟩
    case round =>
      clear MA MB K hk
      obtain ⟨k, la, lb, ca, cb, o, xa, xb, hk, rfl, MA, MB, HO, K, c1, c2⟩ := hrel
      by_cases hlt : k < zs.length
      · obtain ⟨bl, off, rfl, hb, hc⟩ := HR.out (by rintro rfl; simp at hlt)
        have hzl : zs[k].length = 4 := (HZ.out _ (List.getElem_mem hlt)).1
        obtain ⟨z0, z1, z2, z3, hz⟩ : ∃ a b c d, zs[k] = [a, b, c, d] := by
          match zs[k], hzl with
          | [a, b, c, d], _ => exact ⟨a, b, c, d, rfl⟩
        have hc0 := hc k _ (List.getElem?_eq_getElem hlt) 0 (.int .i64 z0) (by rw [hz]; rfl)
        have hc1 := hc k _ (List.getElem?_eq_getElem hlt) 1 (.int .i64 z1) (by rw [hz]; rfl)
        have hc2 := hc k _ (List.getElem?_eq_getElem hlt) 2 (.int .u64 z2) (by rw [hz]; rfl)
        have hc3 := hc k _ (List.getElem?_eq_getElem hlt) 3 (.int .u64 z3) (by rw [hz]; rfl)
        rw [← K.cell hb] at hc0 hc1 hc2 hc3
        have hc0 : wr.cell? ⟨bl, off + k * 4, none⟩ = some (.int .i64 z0) := hc0
        have hc1 : wr.cell? ⟨bl, off + k * 4 + 1, none⟩ = some (.int .i64 z1) := hc1
        have hc2 : wr.cell? ⟨bl, off + k * 4 + 2, none⟩ = some (.int .u64 z2) := hc2
        have hc3 : wr.cell? ⟨bl, off + k * 4 + 3, none⟩ = some (.int .u64 z3) := hc3
        have hbw := Nat.lt_of_lt_of_le hb K.size
        clear hc hz hzl
        go_upto_region 16 with ((go_at_call 38; refine (number_b _ _ _ (by omega) (by omega)).mono ?_; rintro e w' ⟨j, rfl, hj, rfl⟩))
        have j5 : j < 5 := by omega
        have lA := MA.lt
        have lB := MB.lt
        have HD := Has.new wr #[.int .i64 z0, .int .i64 j, .int .u64 z2, .int .u64 z3] 56
        have MA := MA.alloc (.cells #[.int .i64 z0, .int .i64 j, .int .u64 z2, .int .u64 z3] 56)
        have MB := MB.alloc (.cells #[.int .i64 z0, .int .i64 j, .int .u64 z2, .int .u64 z3] 56)
        have K := K.alloc (.cells #[.int .i64 z0, .int .i64 j, .int .u64 z2, .int .u64 z3] 56)
        obtain ⟨dd, hdd⟩ : ∃ dd, dd = wr.heap.size := ⟨_, rfl⟩
        rw [← hdd] at HD lA lB
        rw [← hdd]
        clear hdd
        refine wp_named (fun W0 hW0 => ?_)
        rw [← hW0] at HD MA MB K
        clear hW0
        obtain ⟨oa, hoa⟩ : ∃ oa, la[j]? = some oa := ⟨la[j]'(by rw [MA.len]; exact j5), List.getElem?_eq_getElem _⟩
        obtain ⟨ob, hob⟩ : ∃ ob, lb[j]? = some ob := ⟨lb[j]'(by rw [MB.len]; exact j5), List.getElem?_eq_getElem _⟩
        have HA := Lib.hid hoa
        have HB := Lib.hid hob
        clear hoa hob
        have F_ := (HD).facts; simp only [blockFacts, listFacts, cellsAt, Nat.reduceAdd, and_true, true_and, and_assoc] at F_
        by_cases hjp : j = p
        · subst hjp
          have e1 : oa = o := by have := HA.out.symm.trans HO.out.1; simpa using this
          have e2 : ob = o := by have := HB.out.symm.trans HO.out.2; simpa using this
          subst e1 e2
          have tok2 : True := trivial
          go_wp2_with (first
            | (go_at_call 51; have _t := tok2; refine (does_c MA j HA.out _ _ _ (by omega)).mono ?_; rintro e w' ⟨x1, rfl, hu, M1⟩; clear tok2; have MB := MB.upd hu (by simp; exact ⟨n1.symm, n4.symm⟩) (by simp; exact ⟨n3.symm, n2.symm⟩); have HD := HD.upd hu (by simp; omega); have K := K.upd2 hu hg1 hb1; have F_ := (HD).facts; simp only [blockFacts, listFacts, cellsAt, Nat.reduceAdd, and_true, true_and, and_assoc] at F_)
            | (go_at_call 51; refine (does_c MB j HB.out _ _ _ (by omega)).mono ?_; rintro e w' ⟨x2, rfl, hv, M2⟩; have M1 := M1.upd hv (by simp; exact ⟨n1, n3⟩) (by simp; exact ⟨n4, n2⟩); have K := K.upd2 hv hg3 hb3))
          go_roundw
          case rel => exact ⟨k + 1, _, _, _, _, _, _, _, by omega, by go_num, M1, M2, Lib.hid ⟨by rw [List.getElem?_set_self (get_lt HA.out)], by rw [List.getElem?_set_self (get_lt HB.out)]⟩, K, by omega, by omega⟩
          case measure => simp [intOf]; omega
        · have hne : ((j : Int) == (p : Int)) = false := by simp; omega
          go_wp2_with (first
            | (go_at_call 51; refine (does_c MA j HA.out _ _ _ (by omega)).mono ?_; rintro e w' ⟨x1, rfl, hu, M1⟩; have MB := MB.upd hu (by simp; exact ⟨n1.symm, n4.symm⟩) (by simp; exact ⟨n3.symm, n2.symm⟩); have HD := HD.upd hu (by simp; omega); have K := K.upd2 hu hg1 hb1; have F_ := (HD).facts; simp only [blockFacts, listFacts, cellsAt, Nat.reduceAdd, and_true, true_and, and_assoc] at F_))
          go_roundw
          case rel => exact ⟨k + 1, _, _, _, _, _, _, _, by omega, by go_num, M1, MB, Lib.hid ⟨by rw [List.getElem?_set_ne hjp]; exact HO.out.1, HO.out.2⟩, K, by omega, by omega⟩
          case measure => simp [intOf]; omega
      · obtain rfl : k = zs.length := by omega
        have tok3 : True := trivial
        go_wp2_with (first
          | (go_at_call 34; have _t := tok3; refine (mpeek_in MA p HO.out.1).mono ?_; rintro e w' ⟨rfl, rfl⟩; clear tok3)
          | (go_at_call 34; refine (mpeek_in MB p HO.out.2).mono ?_; rintro e w' ⟨rfl, rfl⟩))
        go_ret
        exact ⟨rfl, K⟩
end Go.Proofs.Ythlojiefnclgkaa
