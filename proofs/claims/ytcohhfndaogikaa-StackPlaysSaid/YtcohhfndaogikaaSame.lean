/- SameInts, walked. -/
import Derived.Test.YtcohhfndaogikaaSlice
import Derived.LoopTactic
import Derived.Deep.QuietTactic
import Derived.BigQuiet
namespace Go.Proofs.Ytcohhfndaogikaa
set_option linter.unusedVariables false
set_option linter.unusedSimpArgs false
open Go Go.RowKit
set_option maxRecDepth 100000
set_option maxHeartbeats 1000000

theorem sameInts_c (a b : Value) (xs ys : List Int) (w : World) (h1 : Reads .i64 w a xs) (h2 : Reads .i64 w b ys) (hl : xs.length ≤ 1000000) (hl2 : ys.length ≤ 1000000) :
    Calls Try.prog 22 #[a, b] w fun e w' => e = .returned (.bool (decide (xs = ys))) ∧ Keeps w w' := by
  obtain ⟨aa, ca, rfl, ra⟩ := h1
  obtain ⟨ab, cb, rfl, rb⟩ := h2
  have RA := Lib.hid ra
  have RB := Lib.hid rb
  clear ra rb
  by_cases hlen : xs.length = ys.length
  · have q0 : ((xs.length : Int) == (ys.length : Int)) = true := by simp [hlen]
    have q1 : ((xs.length : Int) != (ys.length : Int)) = false := by simp [hlen]
    have HLn := Lib.hid hlen
    clear hlen
    go_enter Try.func22, Try.ntmps22
    go_wp2
    go_loopw [5] (fun i wr => ∃ k : Nat, k ≤ xs.length ∧ i = .int .i64 k ∧ Keeps w wr ∧ Hid (∀ j, j < k → xs[j]? = ys[j]?)) (fun i _ => xs.length - (intOf i).toNat)
    case atStart => exact ⟨0, by omega, rfl, Keeps.refl _, Lib.hid (fun j hj => by omega)⟩
    case round =>
      obtain ⟨k, hk, rfl, K0, hno⟩ := hrel
      by_cases hlt : k < xs.length
      · obtain ⟨b1, o1, rfl, hb1, hc1⟩ := RA.out (by rintro rfl; simp at hlt)
        obtain ⟨b2, o2, rfl, hb2, hc2⟩ := RB.out (by intro e; have := HLn.out; rw [e] at this; simp only [List.length_nil] at this; omega)
        have hlt2 : k < ys.length := by rw [← HLn.out]; exact hlt
        have c1 := (K0.cell hb1).trans (hc1 k xs[k] (List.getElem?_eq_getElem hlt))
        have c2 := (K0.cell hb2).trans (hc2 k ys[k] (List.getElem?_eq_getElem hlt2))
        clear hc1 hc2
        obtain ⟨x, hx⟩ : ∃ x, xs[k] = x := ⟨_, rfl⟩
        obtain ⟨y, hy⟩ : ∃ y, ys[k] = y := ⟨_, rfl⟩
        have HX := Lib.hid hx
        have HY := Lib.hid hy
        rw [hx] at c1
        rw [hy] at c2
        clear hx hy
        by_cases hz : x = y
        · have q : (x == y) = true := by simp [hz]
          have qn : (x != y) = false := by simp [hz]
          have HZ := Lib.hid hz
          clear hz
          go_wp2
          go_quiet (fail)
          go_wp2
          go_roundw
          case rel =>
            refine ⟨k + 1, by omega, by go_num, by ((repeat' (first | (with_reducible exact Keeps.refl _) | (with_reducible assumption) | (with_reducible refine Keeps.drewN ?_ _) | (with_reducible refine Keeps.drew ?_) | (with_reducible refine Keeps.alloc ?_ _) | (with_reducible refine Keeps.setCell ?_ ?_ _) | (with_reducible refine Keeps.trans ?_ (After.keeps _)) | (with_reducible refine Keeps.trans ?_ (by with_reducible assumption)) | go_size)); (first | done | fail)), Lib.hid (fun j hj => ?_)⟩
            rcases Nat.lt_or_ge j k with h1 | h1
            · exact hno.out j h1
            · obtain rfl : j = k := by omega
              rw [List.getElem?_eq_getElem hlt, List.getElem?_eq_getElem hlt2, HX.out, HY.out, HZ.out]
          case measure => simp [intOf]; omega
        · have q : (x == y) = false := by simp [hz]
          have qn : (x != y) = true := by simp [hz]
          have HZ := Lib.hid hz
          clear hz
          go_wp2
          go_quiet (fail)
          go_wp2
          go_ret
          have HD : decide (xs = ys) = false := decide_eq_false (fun e => by
            subst e
            exact HZ.out (HX.out.symm.trans HY.out))
          exact ⟨by rw [HD]; rfl, by ((repeat' (first | (with_reducible exact Keeps.refl _) | (with_reducible assumption) | (with_reducible refine Keeps.drewN ?_ _) | (with_reducible refine Keeps.drew ?_) | (with_reducible refine Keeps.alloc ?_ _) | (with_reducible refine Keeps.setCell ?_ ?_ _) | (with_reducible refine Keeps.trans ?_ (After.keeps _)) | (with_reducible refine Keeps.trans ?_ (by with_reducible assumption)) | go_size)); (first | done | fail))⟩
      · obtain rfl : k = xs.length := by omega
        go_wp2
        go_ret
        have HD : decide (xs = ys) = true := decide_eq_true (List.ext_getElem? fun j => by
          rcases Nat.lt_or_ge j xs.length with h1 | h1
          · exact hno.out j h1
          · rw [List.getElem?_eq_none h1, List.getElem?_eq_none (by rw [← HLn.out]; exact h1)])
        exact ⟨by rw [HD]; rfl, by ((repeat' (first | (with_reducible exact Keeps.refl _) | (with_reducible assumption) | (with_reducible refine Keeps.drewN ?_ _) | (with_reducible refine Keeps.drew ?_) | (with_reducible refine Keeps.alloc ?_ _) | (with_reducible refine Keeps.setCell ?_ ?_ _) | (with_reducible refine Keeps.trans ?_ (After.keeps _)) | (with_reducible refine Keeps.trans ?_ (by with_reducible assumption)) | go_size)); (first | done | fail))⟩
  · have q0 : ((xs.length : Int) == (ys.length : Int)) = false := by rw [beq_eq_false_iff_ne]; omega
    have q1 : ((xs.length : Int) != (ys.length : Int)) = true := by simp; omega
    have hd : decide (xs = ys) = false := decide_eq_false (fun e => hlen (by rw [e]))
    have HD := Lib.hid hd
    clear hlen hd
    go_enter Try.func22, Try.ntmps22
    go_wp2
    go_ret
    exact ⟨by rw [HD.out]; rfl, by ((repeat' (first | (with_reducible exact Keeps.refl _) | (with_reducible assumption) | (with_reducible refine Keeps.drewN ?_ _) | (with_reducible refine Keeps.drew ?_) | (with_reducible refine Keeps.alloc ?_ _) | (with_reducible refine Keeps.setCell ?_ ?_ _) | (with_reducible refine Keeps.trans ?_ (After.keeps _)) | (with_reducible refine Keeps.trans ?_ (by with_reducible assumption)) | go_size)); (first | done | fail))⟩
theorem sameInts_yes (a b : Value) (xs : List Int) (w : World) (h1 : Reads .i64 w a xs) (h2 : Reads .i64 w b xs) (hl : xs.length ≤ 1000000) :
    Calls Try.prog 22 #[a, b] w fun e w' => e = .returned (.bool true) ∧ Keeps w w' :=
  (sameInts_c a b xs xs w h1 h2 hl hl).mono fun e w' ⟨h, k⟩ => ⟨by rw [h, decide_eq_true rfl], k⟩
end Go.Proofs.Ytcohhfndaogikaa
