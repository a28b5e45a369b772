/- GripFull, walked. -/
import Derived.Test.YthlojiefnclgkaaGripL
namespace Go.Proofs.Ythlojiefnclgkaa
set_option linter.unusedVariables false
set_option linter.unusedSimpArgs false
open Go Go.RowKit
set_option maxRecDepth 100000

def FL (s b : Int) (k : Nat) : List (Int × Int) := (List.range k).map fun (i : Nat) => (s + (i : Int) / 2, b + (i : Int) % 2)
theorem FL_len (s b : Int) (k : Nat) : (FL s b k).length = k := by simp [FL]
theorem FL_succ (s b : Int) (k : Nat) : FL s b (k + 1) = FL s b k ++ [(s + (k : Int) / 2, b + (k : Int) % 2)] := by simp [FL, List.range_succ]
theorem FL_mem (s b : Int) (k : Nat) (x y : Int) : (x, y) ∈ FL s b k ↔ ∃ i : Nat, i < k ∧ s + (i : Int) / 2 = x ∧ b + (i : Int) % 2 = y := by simp [FL]
theorem FL_new (s b : Int) (k : Nat) : (s + (k : Int) / 2, b + (k : Int) % 2) ∉ FL s b k := by
  rw [FL_mem]; rintro ⟨i, h1, h2, h3⟩; omega
theorem FL_not (s b : Int) (k : Nat) : (s, b + 2) ∉ FL s b k := by
  rw [FL_mem]; rintro ⟨i, h1, h2, h3⟩; omega

set_option maxHeartbeats 1000000 in
theorem gripFull_c (a c n : Int) (w : World) : Calls Try.prog 6 #[.int .i64 a, .int .i64 c, .int .i64 n] w fun e w' => e = .returned (.bool true) ∧ Keeps w w' := by
  have h1 := mod_bd a 1000 (by omega)
  have h2 := mod_bd c 1000 (by omega)
  have h3 := mod_bd n 8 (by omega)
  obtain ⟨s, hs⟩ : ∃ s, s = a % 1000 := ⟨_, rfl⟩
  obtain ⟨b, hb⟩ : ∃ b, b = c % 1000 := ⟨_, rfl⟩
  rw [← hs] at h1
  rw [← hb] at h2
  obtain ⟨m, hm⟩ : ∃ m : Nat, (m : Int) = n % 8 := ⟨(n % 8).toNat, by omega⟩
  rw [← hm] at h3
  have HM := Lib.hid hm.symm
  clear hm
  have hin : (s + (m : Int) / 2, b + (m : Int) % 2) ∈ FL s b 8 := (FL_mem _ _ _ _ _).2 ⟨m, by omega, rfl, rfl⟩
  have hno := FL_not s b 8
  have HI := Lib.hid hin
  have HN := Lib.hid hno
  have HD := Lib.hid (decide_eq_false hno)
  have HO : Hid (decide ((s, b) ∈ [(s, b + 2)]) = false) := Lib.hid (decide_eq_false (by simp; omega))
  clear hin hno
  have HS := Lib.hid hs.symm
  have HB := Lib.hid hb.symm
  clear hs hb
  go_enter Try.func6, Try.ntmps6
  go_wp2_with (first
    | (go_at_call 36; refine (gfirst_c _).mono ?_; rintro e w' ⟨rfl, K⟩)
    | (go_at_call 38; refine (number_c _ _ _ (by omega) (by omega)).mono ?_; rintro e w' ⟨rfl, rfl⟩; (first | rw [HS.out] | rw [HB.out] | skip))
    | (go_at_call 37; refine (gnew_c _ w.heap.size K.size).mono ?_; rintro e w' ⟨g, rfl, hk, hg, G⟩; have K := K.trans hk)
    | (go_at_call 39; refine (gpin_c _ _ _ 0 _ _ G (by omega) (by omega)).mono ?_; rintro e w' ⟨rfl, hu, G1⟩; have K := G.k1 K hu; have G : GripAt _ _ g 1 _ _ := G1))

  go_loopw [11] (fun i wr => ∃ (k : Nat) (v : Value), k ≤ 8 ∧ i = .int .i64 k ∧ GripAt w.heap.size wr g 1 (FL s b k) v ∧ Keeps w wr) (fun i _ => 8 - (intOf i).toNat)
  case atStart => exact ⟨0, _, by omega, rfl, G, K⟩
  case round =>
    clear K G
    obtain ⟨k, v, hk, rfl, G, K⟩ := hrel
    by_cases hlt : k < 8
    · have hl := FL_len s b k
      have hl1 := FL_len s b (k + 1)
      have HL := Lib.hid hl1
      clear hl1
      have hl' : (FL s b k).length < 8 := by omega
      go_wp2_with (first
        | (go_at_call 43; refine (ghold_new _ _ _ 1 (FL s b k) _ _ _ G (by omega) (FL_new s b k) hl').mono ?_; rintro e w' ⟨v1, rfl, hu, G1⟩; have K := G.k2 K hu; rw [← FL_succ] at G1; have G := G1)
        | (go_at_call 46; refine (glen_c _ _ _ _ _ _ G).mono ?_; rintro e w' ⟨rfl, rfl⟩; rw [HL.out]))
      go_roundw
      case rel => exact ⟨k + 1, _, by omega, by go_num, G, K⟩
      case measure => simp [intOf]; omega
    · obtain rfl : k = 8 := by omega
      have hl8 := FL_len s b 8
      have HL := Lib.hid hl8
      go_wp2_with (first
        | (go_at_call 38; refine (number_c _ _ _ (by omega) (by omega)).mono ?_; rintro e w' ⟨rfl, rfl⟩; rw [HM.out])
        | (go_at_call 43; refine (ghold_held _ _ _ 1 (FL s b 8) _ _ _ G (by omega) (by with_reducible exact HI.out)).mono ?_; rintro e w' ⟨rfl, hk⟩; have K := K.trans hk; have G := G.keeps hk)
        | (go_at_call 43; refine (ghold_full _ _ _ 1 (FL s b 8) _ _ _ G (by omega) (by with_reducible exact HN.out) HL.out).mono ?_; rintro e w' ⟨rfl, hk⟩; have K := K.trans hk; have G := G.keeps hk)
        | (go_at_call 46; refine (glen_c _ _ _ _ _ _ G).mono ?_; rintro e w' ⟨rfl, rfl⟩; (first | rw [HL.out] | skip))
        | (go_at_call 47; refine (gholds_c _ _ _ _ _ _ _ _ G).mono ?_; rintro e w' ⟨rfl, hk⟩; (first | rw [HD.out] | rw [HO.out] | skip); have K := K.trans hk; have G := G.keeps hk)
        | (go_at_call 41; refine (gunpin_last _ _ _ _ _ G).mono ?_; rintro e w' ⟨rfl, hu, G1⟩; have K := G.k1 K hu; have G := G1)
        | (go_at_call 39; refine (gpin_c _ _ _ 0 _ _ G (by omega) (by omega)).mono ?_; rintro e w' ⟨rfl, hu, G1⟩; have K := G.k1 K hu; have G : GripAt _ _ g 1 _ _ := G1)
        | (go_at_call 43; refine (ghold_new _ _ _ 1 [] _ _ _ G (by omega) (by simp) (by simp)).mono ?_; rintro e w' ⟨v1, rfl, hu, G1⟩; have K := G.k2 K hu; have G : GripAt _ _ g 1 [(s, b + 2)] _ := G1))
      go_ret
      exact ⟨rfl, by (repeat' (first | (with_reducible exact Keeps.refl _) | (with_reducible assumption) | (with_reducible refine Keeps.drewN ?_ _) | (with_reducible refine Keeps.drew ?_) | (with_reducible refine Keeps.alloc ?_ _) | (with_reducible refine Keeps.setCell ?_ ?_ _) | (with_reducible refine Keeps.trans ?_ (After.keeps _)) | (with_reducible refine Keeps.trans ?_ (by with_reducible assumption)) | go_size))⟩
end Go.Proofs.Ythlojiefnclgkaa
