/- StackLots: distinct, walked. -/
import Derived.Test.YtcohhfndaogikaaStackTab
import Derived.Test.YtcohhfndaogikaaSame
import Derived.Test.YtcohhfndaogikaaAppI
import Derived.LoopTactic
import Derived.Deep.QuietTactic
import Derived.BigQuiet
namespace Go.Proofs.Ytcohhfndaogikaa
set_option linter.unusedVariables false
set_option linter.unusedSimpArgs false
open Go Go.RowKit
set_option maxRecDepth 100000
set_option maxHeartbeats 2000000

theorem number_ex (v n : Int) (w : World) (h : 1 ≤ n) (h2 : n ≤ 4611686018427387904) : Calls Try.prog 16 #[.int .i64 v, .int .i64 n] w fun e w' => ∃ q : Nat, e = .returned (.int .i64 q) ∧ (q : Int) < n ∧ w = w' := by
  have hb := mod_bd v n h
  obtain ⟨q, hq⟩ := Int.eq_ofNat_of_zero_le hb.1
  refine (number_c v n w h h2).mono ?_
  rintro e w' ⟨rfl, rfl⟩
  exact ⟨q, by rw [hq], by omega, rfl⟩
/-- Each once, as they come. -/
def addD (out : List Int) (z : Int) : List Int := if z ∈ out then out else out ++ [z]
def dedupL (zs : List Int) : List Int := zs.foldl addD []
theorem dedupL_snoc (zs : List Int) (z : Int) : dedupL (zs ++ [z]) = addD (dedupL zs) z := by simp [dedupL]
theorem foldD {zs : List Int} : ∀ {out : List Int}, out.Nodup → (zs.foldl addD out).Nodup ∧ (∀ z, z ∈ zs.foldl addD out ↔ z ∈ out ∨ z ∈ zs) ∧ (zs.foldl addD out).length ≤ out.length + zs.length := by
  induction zs with
  | nil => intro out h; simpa using h
  | cons y r ih =>
    intro out h
    rw [List.foldl_cons]
    by_cases hy : y ∈ out
    · have e : addD out y = out := by unfold addD; rw [if_pos hy]
      rw [e]
      obtain ⟨i1, i2, i3⟩ := ih h
      refine ⟨i1, fun z => ?_, by simp; omega⟩
      rw [i2 z, List.mem_cons]
      constructor
      · rintro (h | h)
        · exact .inl h
        · exact .inr (.inr h)
      · rintro (h | rfl | h)
        · exact .inl h
        · exact .inl hy
        · exact .inr h
    · have e : addD out y = out ++ [y] := by unfold addD; rw [if_neg hy]
      rw [e]
      obtain ⟨i1, i2, i3⟩ := ih (out := out ++ [y]) (List.nodup_append.2 ⟨h, by simp, fun a ha c hc eac => by
        have h1 := List.mem_singleton.1 hc
        subst h1
        subst eac
        exact hy ha⟩)
      refine ⟨i1, fun z => ?_, by simp at i3 ⊢; omega⟩
      rw [i2 z, List.mem_append, List.mem_singleton, List.mem_cons]
      constructor
      · rintro ((h | h) | h)
        · exact .inl h
        · exact .inr (.inl h)
        · exact .inr (.inr h)
      · rintro (h | h | h)
        · exact .inl (.inl h)
        · exact .inl (.inr h)
        · exact .inr h
theorem dedupL_nodup (zs : List Int) : (dedupL zs).Nodup := (foldD List.nodup_nil).1
theorem dedupL_mem (zs : List Int) (z : Int) : z ∈ dedupL zs ↔ z ∈ zs := by
  have := (foldD (zs := zs) List.nodup_nil).2.1 z
  simpa [dedupL] using this
theorem dedupL_len (zs : List Int) : (dedupL zs).length ≤ zs.length := by
  have := (foldD (zs := zs) List.nodup_nil).2.2
  simpa [dedupL] using this
theorem take_snocE {zs : List Int} {k : Nat} (h : k < zs.length) : zs.take (k + 1) = zs.take k ++ [zs[k]] := List.take_succ_eq_append_getElem h
theorem mem_take_succ {zs : List Int} {k : Nat} {x y : Int} (h : k < zs.length) (hy : zs[k] = y) : (x ∈ zs.take (k + 1)) ↔ (x ∈ zs.take k ∨ y = x) := by
  rw [take_snocE h, List.mem_append, List.mem_singleton, hy]
  constructor
  · rintro (h | h)
    · exact .inl h
    · exact .inr h.symm
  · rintro (h | h)
    · exact .inl h
    · exact .inr h.symm
theorem distinct_c (v : Value) (zs : List Int) (w : World) (h : Reads .i64 w v zs) (hl : zs.length ≤ 100000) :
    Calls Try.prog 45 #[v] w fun e w' => ∃ v', e = .returned v' ∧ Keeps w w' ∧ Row w.heap.size 3 w' v' (ivals (dedupL zs)) := by
  obtain ⟨ad, cap, rfl, hr⟩ := h
  have HR := Lib.hid hr
  clear hr
  go_enter Try.func45, Try.ntmps45
  go_wp2
  go_loopw [3, 4] (fun ov iv wr => ∃ i : Nat, i ≤ zs.length ∧ iv = .int .i64 i ∧ Row w.heap.size 3 wr ov (ivals (dedupL (zs.take i))) ∧ Keeps w wr) (fun _ iv _ => zs.length - (intOf iv).toNat)
  case atStart => exact ⟨0, by omega, rfl, Row.nil _ _ _, Keeps.refl _⟩
  case round =>
    obtain ⟨i, hi, rfl, R, K0⟩ := hrel
    obtain ⟨oad, ocap, hv, hor⟩ := R.reads
    subst hv
    have hdl := dedupL_len (zs.take i)
    rw [List.length_take] at hdl
    obtain ⟨out, hout⟩ : ∃ out, dedupL (zs.take i) = out := ⟨_, rfl⟩
    have HOut := Lib.hid hout
    rw [hout] at R hdl hor ⊢
    clear hout
    have hol : out.length ≤ 100000 := by omega
    have hi1 : Hid (((i : Int) + 1) = ((i + 1 : Nat) : Int)) := Lib.hid (by omega)
    by_cases hlt : i < zs.length
    · obtain ⟨b1, o1, rfl, hb1, hc1⟩ := HR.out (by rintro rfl; simp at hlt)
      have c1 := hc1 i zs[i] (List.getElem?_eq_getElem hlt)
      rw [← K0.cell hb1] at c1
      clear hc1
      obtain ⟨z, hz⟩ : ∃ z, zs[i] = z := ⟨_, rfl⟩
      have HZ := Lib.hid hz
      rw [hz] at c1
      clear hz
      have hlt' : (i : Int) < zs.length := by omega
      have C1 := Lib.hid c1
      have hbw : b1 < wr.heap.size := Nat.lt_of_lt_of_le hb1 K0.size
      have HR3 := Lib.hid hor
      have RR := Lib.hid R
      have KK := Lib.hid K0
      clear c1 hor R K0
      go_wp2
      go_loopw [5, 6] (fun tv jv wq => ∃ j : Nat, j ≤ out.length ∧ jv = .int .i64 j ∧ tv = .bool (decide (z ∈ out.take j)) ∧ Keeps wr wq) (fun _ jv _ => out.length - (intOf jv).toNat)
      case atStart => exact ⟨0, by omega, rfl, by simp, Keeps.refl _⟩
      case round =>
        obtain ⟨j, hj, rfl, rfl, KQ⟩ := hrel
        by_cases hjl : j < out.length
        · obtain ⟨b2, o2, rfl, hb2, hc2⟩ := HR3.out (by rintro rfl; simp at hjl)
          have c2 := (KQ.cell hb2).trans (hc2 j out[j] (List.getElem?_eq_getElem hjl))
          have c1 := (KQ.cell hbw).trans C1.out
          clear hc2
          obtain ⟨y, hy⟩ : ∃ y, out[j] = y := ⟨_, rfl⟩
          rw [hy] at c2
          have HY := Lib.hid (mem_take_succ (x := z) hjl hy)
          clear hy
          have hjl' : (j : Int) < out.length := by omega
          by_cases hm : z ∈ out.take j
          · rw [decide_eq_true hm]
            have HM : Hid (decide (z ∈ out.take (j + 1)) = true) := Lib.hid (decide_eq_true (HY.out.2 (.inl hm)))
            clear hm
            go_wp2
            go_quiet (fail)
            go_wp2
            go_roundw
            case rel => exact ⟨j + 1, by omega, by go_num, by rw [HM.out], by ((repeat' (first | (with_reducible exact Keeps.refl _) | (with_reducible assumption) | (with_reducible refine Keeps.drewN ?_ _) | (with_reducible refine Keeps.drew ?_) | (with_reducible refine Keeps.alloc ?_ _) | (with_reducible refine Keeps.setCell ?_ ?_ _) | (with_reducible refine Keeps.trans ?_ (After.keeps _)) | (with_reducible refine Keeps.trans ?_ (by with_reducible assumption)) | go_size)); (first | done | fail))⟩
            case measure => simp [intOf]; omega
          · rw [decide_eq_false hm]
            by_cases hyz : y = z
            · have q : (y == z) = true := by simp [hyz]
              have HM : Hid (decide (z ∈ out.take (j + 1)) = true) := Lib.hid (decide_eq_true (HY.out.2 (.inr hyz)))
              clear hm hyz
              go_wp2
              go_quiet (fail)
              go_wp2
              go_roundw
              case rel => exact ⟨j + 1, by omega, by go_num, by rw [HM.out], by ((repeat' (first | (with_reducible exact Keeps.refl _) | (with_reducible assumption) | (with_reducible refine Keeps.drewN ?_ _) | (with_reducible refine Keeps.drew ?_) | (with_reducible refine Keeps.alloc ?_ _) | (with_reducible refine Keeps.setCell ?_ ?_ _) | (with_reducible refine Keeps.trans ?_ (After.keeps _)) | (with_reducible refine Keeps.trans ?_ (by with_reducible assumption)) | go_size)); (first | done | fail))⟩
              case measure => simp [intOf]; omega
            · have q : (y == z) = false := by simp [hyz]
              have HM : Hid (decide (z ∈ out.take (j + 1)) = false) := Lib.hid (decide_eq_false (fun h => (HY.out.1 h).elim hm hyz))
              clear hm hyz
              go_wp2
              go_quiet (fail)
              go_wp2
              go_roundw
              case rel => exact ⟨j + 1, by omega, by go_num, by rw [HM.out], by ((repeat' (first | (with_reducible exact Keeps.refl _) | (with_reducible assumption) | (with_reducible refine Keeps.drewN ?_ _) | (with_reducible refine Keeps.drew ?_) | (with_reducible refine Keeps.alloc ?_ _) | (with_reducible refine Keeps.setCell ?_ ?_ _) | (with_reducible refine Keeps.trans ?_ (After.keeps _)) | (with_reducible refine Keeps.trans ?_ (by with_reducible assumption)) | go_size)); (first | done | fail))⟩
              case measure => simp [intOf]; omega
        · obtain rfl : j = out.length := by omega
          rw [List.take_length]
          have R := RR.out.keeps KQ
          have K0 := KK.out.trans KQ
          have szr := K0.size
          have c1 := (KQ.cell hbw).trans C1.out
          have HS : Hid (dedupL (zs.take (i + 1)) = addD out z) := Lib.hid (by rw [take_snocE hlt, dedupL_snoc, HOut.out, HZ.out])
          by_cases hm : z ∈ out
          · rw [decide_eq_true hm]
            have HA : Hid (addD out z = out) := Lib.hid (by unfold addD; rw [if_pos hm])
            clear hm
            go_wp2
            go_roundw
            case rel => exact ⟨i + 1, by omega, by go_num, by rw [HS.out, HA.out]; exact R, K0⟩
            case measure => simp [intOf]; omega
          · rw [decide_eq_false hm]
            have HA : Hid (addD out z = out ++ [z]) := Lib.hid (by unfold addD; rw [if_neg hm])
            clear hm
            go_wp2_with (at_builtin; refine wpList_append_ints (B := w.heap.size) (xs := out) (ys := [z]) rfl _ _ rfl _ rfl rfl (R.alloc _) (Has.src (Has.newAt (by simp)) _) (by simp; omega) (by simp; omega) ?_; intro v1 w1 R1 U1 O1)
            have K1 := (K0.alloc (.cells #[.int .i64 z] 3)).upd U1 (fun y hy => (R.own y hy).1)
            go_roundw
            case rel => exact ⟨i + 1, by omega, by go_num, by rw [HS.out, HA.out]; exact R1, K1⟩
            case measure => simp [intOf]; omega
    · obtain rfl : i = zs.length := by omega
      rw [List.take_length] at HOut
      go_wp2
      go_ret
      exact ⟨_, rfl, K0, by rw [HOut.out]; exact R⟩
end Go.Proofs.Ytcohhfndaogikaa
