/- The laws LayWhole and LayApart, walked. -/
import Derived.Test.YtendglgcimdcpaaLayL
import Derived.Test.YtendglgcimdcpaaConfW
namespace Go.Proofs.Ytendglgcimdcpaa
set_option linter.unusedVariables false
set_option linter.unusedSimpArgs false
open Go Go.RowKit
set_option maxRecDepth 100000

section
variable {p k d s c b : Int}
theorem len_of (hm : mayB p k d s c b = true) : lenI p k d s c b = 3 + p + 2 * s + k + k * d := by unfold lenI; rw [hm]; rfl
theorem len_bd (hm : mayB p k d s c b = true) : 14 ≤ lenI p k d s c b ∧ lenI p k d s c b ≤ 4300000 := by
  obtain ⟨⟨p0, p1⟩, ⟨k0, k1⟩, ⟨d0, d1⟩, -, ⟨s0, s1⟩, ⟨c0, c1⟩, b0, b1⟩ := mayB_true.1 hm
  obtain ⟨q0, q1⟩ := prod_bd k0 k1 d0 d1
  rw [len_of hm]; omega
/-- Each cell is something, and that something is there. -/
theorem what_cases (hm : mayB p k d s c b = true) {z : Int} (h0 : 0 ≤ z) (h1 : z < lenI p k d s c b) :
    (z = 0 ∧ whatI p k d s c b z = (1, 0, 0)) ∨ (z = 1 ∧ whatI p k d s c b z = (1, 1, 0)) ∨ (z = 2 ∧ whatI p k d s c b z = (2, 0, 0)) ∨
    (∃ a, whatI p k d s c b z = (3, a, 0) ∧ cpinI p k d s c b a = z) ∨ (∃ a, whatI p k d s c b z = (4, a, 0) ∧ crootI p k d s c b a = z) ∨
    (∃ a, whatI p k d s c b z = (5, a, 0) ∧ cslotI p k d s c b a = z) ∨ (∃ a, whatI p k d s c b z = (6, a, 0) ∧ clinkI p k d s c b a = z) ∨
    (∃ a e, whatI p k d s c b z = (7, a, e) ∧ wordI p k d s c b a e = z) := by
  obtain ⟨⟨p0, p1⟩, ⟨k0, k1⟩, ⟨d0, d1⟩, -, ⟨s0, s1⟩, ⟨c0, c1⟩, b0, b1⟩ := mayB_true.1 hm
  rw [len_of hm] at h1
  have hn : ¬ (mayB p k d s c b = false ∨ z < 0) := by rintro (g | g); (rw [hm] at g; cases g); omega
  by_cases g0 : z = 0
  · subst g0; exact .inl ⟨rfl, by unfold whatI; rw [if_neg hn, if_pos (by omega)]⟩
  by_cases g1 : z = 1
  · subst g1; exact .inr (.inl ⟨rfl, by unfold whatI; rw [if_neg hn, if_pos (by omega)]⟩)
  by_cases g2 : z = 2
  · subst g2; exact .inr (.inr (.inl ⟨rfl, by unfold whatI; rw [if_neg hn, if_neg (by omega), if_pos rfl]⟩))

  by_cases g3 : z < 3 + p
  · refine .inr (.inr (.inr (.inl ⟨z - (3), ?_, ?_⟩)))
    · unfold whatI; rw [if_neg hn, if_neg (by omega), if_neg (by omega), if_pos g3]
    · unfold cpinI; rw [atI_t hm (by omega) (by omega)]; omega
  by_cases g4 : z < 3 + p + s
  · refine .inr (.inr (.inr (.inr (.inl ⟨z - (3 + p), ?_, ?_⟩))))
    · unfold whatI; rw [if_neg hn, if_neg (by omega), if_neg (by omega), if_neg (by omega), if_pos g4]
    · unfold crootI; rw [atI_t hm (by omega) (by omega)]; omega
  by_cases g5 : z < 3 + p + s + s
  · refine .inr (.inr (.inr (.inr (.inr (.inl ⟨z - (3 + p + s), ?_, ?_⟩)))))
    · unfold whatI; rw [if_neg hn, if_neg (by omega), if_neg (by omega), if_neg (by omega), if_neg (by omega), if_pos g5]
    · unfold cslotI; rw [atI_t hm (by omega) (by omega)]; omega
  by_cases g6 : z < 3 + p + s + s + k
  · refine .inr (.inr (.inr (.inr (.inr (.inr (.inl ⟨z - (3 + p + s + s), ?_, ?_⟩))))))
    · unfold whatI; rw [if_neg hn, if_neg (by omega), if_neg (by omega), if_neg (by omega), if_neg (by omega), if_neg (by omega), if_pos g6]
    · unfold clinkI; rw [atI_t hm (by omega) (by omega)]; omega
  refine .inr (.inr (.inr (.inr (.inr (.inr (.inr ⟨(z - (3 + p + s + s + k)) / d, (z - (3 + p + s + s + k)) % d, ?_, ?_⟩))))))
  · unfold whatI; rw [if_neg hn, if_neg (by omega), if_neg g2, if_neg g3, if_neg g4, if_neg g5, if_neg g6, if_pos (by omega)]
  · have a0 := Int.ediv_nonneg (show 0 ≤ z - (3 + p + s + s + k) by omega) (show 0 ≤ d by omega)
    have a1 := Int.ediv_lt_of_lt_mul (show 0 < d by omega) (show z - (3 + p + s + s + k) < k * d by omega)
    have a2 := Int.emod_nonneg (z - (3 + p + s + s + k)) (show d ≠ 0 by omega)
    have a3 := Int.emod_lt_of_pos (z - (3 + p + s + s + k)) (show 0 < d by omega)
    have a4 := Int.mul_ediv_add_emod (z - (3 + p + s + s + k)) d
    unfold wordI
    rw [if_pos ⟨hm, a0, a1, a2, a3⟩]
    rw [Int.mul_comm] at a4
    omega
theorem what_inj (hm : mayB p k d s c b = true) {x y : Int} (x0 : 0 ≤ x) (x1 : x < lenI p k d s c b) (y0 : 0 ≤ y) (y1 : y < lenI p k d s c b) (h : whatI p k d s c b x = whatI p k d s c b y) : x = y := by
  rcases what_cases hm x0 x1 with ⟨rfl, e⟩ | ⟨rfl, e⟩ | ⟨rfl, e⟩ | ⟨a, e, ex⟩ | ⟨a, e, ex⟩ | ⟨a, e, ex⟩ | ⟨a, e, ex⟩ | ⟨a, a', e, ex⟩ <;>
  rcases what_cases hm y0 y1 with ⟨rfl, f⟩ | ⟨rfl, f⟩ | ⟨rfl, f⟩ | ⟨u, f, ey⟩ | ⟨u, f, ey⟩ | ⟨u, f, ey⟩ | ⟨u, f, ey⟩ | ⟨u, u', f, ey⟩ <;>
  (have h2 := e.symm.trans (h.trans f); simp at h2 <;> first | rfl | (exfalso; omega) | (subst h2; exact ex.symm.trans ey) | (obtain ⟨rfl, rfl⟩ := h2; exact ex.symm.trans ey))
theorem what_pos (hm : mayB p k d s c b = true) {x : Int} (x0 : 0 ≤ x) (x1 : x < lenI p k d s c b) : 1 ≤ (whatI p k d s c b x).1 := by
  rcases what_cases hm x0 x1 with ⟨rfl, e⟩ | ⟨rfl, e⟩ | ⟨rfl, e⟩ | ⟨a, e, ex⟩ | ⟨a, e, ex⟩ | ⟨a, e, ex⟩ | ⟨a, e, ex⟩ | ⟨a, a', e, ex⟩ <;> rw [e] <;> simp
end
theorem z02 : (0 : Int) % 2 = 0 := rfl
theorem z12 : (1 : Int) % 2 = 1 := rfl
theorem conf_may {p k d s c b : Int} (h : (1 ≤ p ∧ p ≤ 4) ∧ (1 ≤ k ∧ k ≤ 8) ∧ (d = 8 ∨ d = 16) ∧ (1 ≤ s ∧ s ≤ 4) ∧ (0 ≤ c ∧ c ≤ 3) ∧ 1 ≤ b ∧ b ≤ 3) : mayB p k d s c b = true := by
  rw [mayB_true]; omega

end Go.Proofs.Ytendglgcimdcpaa

