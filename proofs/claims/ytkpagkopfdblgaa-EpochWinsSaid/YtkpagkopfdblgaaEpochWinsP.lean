/- Several Advances at once, in plain Lean: one wins. -/
import Derived.Test.YtkpagkopfdblgaaEpochI
namespace Go.Proofs.Ytkpagkopfdblgaa
set_option linter.unusedVariables false
set_option linter.unusedSimpArgs false
open Go Go.RowKit
set_option maxRecDepth 100000

/-- An Advance that has loaded 0. -/
def WOk (s : Ad) : Prop := s.was = 0 ∧ ((s.ph = 1 ∧ s.wk = s.c - 1 ∧ 1 ≤ s.c ∧ s.c ≤ 3 ∧ s.won = false) ∨ (s.ph = 2 ∧ s.c = 4 ∧ s.wk = 3 ∧ s.won = false) ∨ (s.ph = 3 ∧ s.c = 5 ∧ 0 ≤ s.wk))
abbrev wmem (e : Int) : List Int := [e, 0, 0, 0]
def wonI (s : Ad) : Int := if s.won then 1 else 0
def cntW : List Ad → Int
  | [] => 0
  | s :: ss => wonI s + cntW ss
def sumC : List Ad → Int
  | [] => 0
  | s :: ss => s.c + sumC ss
theorem cntW_set : ∀ {ss : List Ad} {i : Nat} {s s' : Ad}, ss[i]? = some s → cntW (ss.set i s') = cntW ss - wonI s + wonI s'
  | [], i, s, s', h => by simp at h
  | t :: ss, 0, s, s', h => by simp at h; subst h; simp [cntW]; omega
  | t :: ss, i + 1, s, s', h => by
    have ih := cntW_set (ss := ss) (s' := s') (show ss[i]? = some s by simpa using h)
    simp [cntW, ih]; omega
theorem sumC_set : ∀ {ss : List Ad} {i : Nat} {s s' : Ad}, ss[i]? = some s → sumC (ss.set i s') = sumC ss - s.c + s'.c
  | [], i, s, s', h => by simp at h
  | t :: ss, 0, s, s', h => by simp at h; subst h; simp [sumC]; omega
  | t :: ss, i + 1, s, s', h => by
    have ih := sumC_set (ss := ss) (s' := s') (show ss[i]? = some s by simpa using h)
    simp [sumC, ih]; omega
theorem cntW_take : ∀ {ss : List Ad} {i : Nat} {s : Ad}, ss[i]? = some s → cntW (ss.take (i + 1)) = cntW (ss.take i) + wonI s
  | [], i, s, h => by simp at h
  | t :: ss, 0, s, h => by simp at h; subst h; simp [cntW]
  | t :: ss, i + 1, s, h => by
    have ih := cntW_take (ss := ss) (show ss[i]? = some s by simpa using h)
    simp [cntW, ih]; omega
theorem cntW_nonneg : ∀ (ss : List Ad), 0 ≤ cntW ss
  | [] => by simp [cntW]
  | s :: ss => by have := cntW_nonneg ss; simp only [cntW, wonI]; split <;> omega
theorem cntW_append : ∀ (a b : List Ad), cntW (a ++ b) = cntW a + cntW b
  | [], b => by simp [cntW]
  | s :: a, b => by simp [cntW, cntW_append a b]; omega
theorem cntW_take_le (ss : List Ad) (i : Nat) : 0 ≤ cntW (ss.take i) ∧ cntW (ss.take i) ≤ cntW ss := by
  have h := cntW_append (ss.take i) (ss.drop i)
  rw [List.take_append_drop] at h
  have h1 := cntW_nonneg (ss.drop i)
  have h2 := cntW_nonneg (ss.take i)
  omega
structure Wins (e : Int) (ss : List Ad) : Prop where
  e01 : e = 0 ∨ e = 1
  ok : ∀ s ∈ ss, WOk s
  cnt : cntW ss = e
  none : e = 0 → ∀ s ∈ ss, s.ph ≠ 3
theorem wstep {e : Int} (h : e = 0 ∨ e = 1) {s : Ad} (hs : WOk s) :
    WOk (adStep 3 (wmem e) s) ∧ (s.ph = 3 → adStep 3 (wmem e) s = s ∧ adMem (wmem e) s = wmem e) ∧ (s.ph ≠ 3 → (adStep 3 (wmem e) s).c = s.c + 1) ∧
      ((s.ph = 2 ∧ e = 0 → wonI (adStep 3 (wmem e) s) = 1 ∧ wonI s = 0 ∧ adMem (wmem e) s = wmem 1) ∧ (¬ (s.ph = 2 ∧ e = 0) → wonI (adStep 3 (wmem e) s) = wonI s ∧ adMem (wmem e) s = wmem e ∧ ((adStep 3 (wmem e) s).ph = 3 → s.ph = 3 ∨ e = 1))) := by
  obtain ⟨ph, c, was, wk, won⟩ := s
  obtain ⟨h0, hs⟩ := hs
  dsimp only at h0 hs
  subst h0
  rcases hs with ⟨rfl, rfl, h1, h2, rfl⟩ | ⟨rfl, rfl, rfl, rfl⟩ | ⟨rfl, rfl, hw⟩
  · have hc : c = 1 ∨ c = 2 ∨ c = 3 := by omega
    rcases h with rfl | rfl <;> rcases hc with rfl | rfl | rfl <;> refine ⟨?_, ?_, ?_, ?_, ?_⟩ <;> simp [adStep, adLook, adMem, WOk, wonI]
  · rcases h with rfl | rfl <;> refine ⟨?_, ?_, ?_, ?_, ?_⟩ <;> simp [adStep, adMem, WOk, wonI]
  · rcases h with rfl | rfl <;> refine ⟨?_, ?_, ?_, ?_, ?_⟩ <;> simp [adStep, adMem, WOk, wonI, hw]
theorem Wins.step {e : Int} {ss : List Ad} (h : Wins e ss) {i : Nat} {s : Ad} (hi : ss[i]? = some s) :
    ∃ e', adMem (wmem e) s = wmem e' ∧ Wins e' (ss.set i (adStep 3 (wmem e) s)) := by
  have hm := List.mem_of_getElem? hi
  obtain ⟨h1, h2, h3, h4, h5⟩ := wstep h.e01 (h.ok s hm)
  have hset := cntW_set (s' := adStep 3 (wmem e) s) hi
  have hok : ∀ t ∈ ss.set i (adStep 3 (wmem e) s), WOk t := fun t ht => by
    rcases List.mem_or_eq_of_mem_set ht with ht | rfl
    · exact h.ok t ht
    · exact h1
  by_cases hc : s.ph = 2 ∧ e = 0
  · obtain ⟨k1, k2, k3⟩ := h4 hc
    refine ⟨1, k3, .inr rfl, hok, ?_, fun e => by omega⟩
    rw [hset, h.cnt, k1, k2, hc.2]; rfl
  · obtain ⟨k1, k2, k3⟩ := h5 hc
    refine ⟨e, k2, h.e01, hok, ?_, fun e0 t ht => ?_⟩
    · rw [hset, h.cnt, k1]; omega
    · rcases List.mem_or_eq_of_mem_set ht with ht | rfl
      · exact h.none e0 t ht
      · intro h3
        rcases k3 h3 with k | k
        · exact h.none e0 s hm k
        · omega
theorem Wins.adOk {e : Int} {ss : List Ad} (h : Wins e ss) {s : Ad} (hs : s ∈ ss) : AdOk 3 (wmem e) s := by
  obtain ⟨h0, h1⟩ := h.ok s hs
  have he := h.e01
  refine ⟨rfl, by omega, by omega, ?_, by omega, by omega, ?_, ?_, ?_, ?_⟩
  · intro v hv
    simp at hv
    omega
  · rcases h1 with h1 | h1 | h1 <;> omega
  · rcases h1 with h1 | h1 | h1 <;> intro _ <;> omega
  · rcases h1 with h1 | h1 | h1 <;> omega
  · rcases h1 with h1 | h1 | h1 <;> omega
theorem sumC_all : ∀ {ss : List Ad}, (∀ s ∈ ss, s.c = 5) → sumC ss = 5 * ss.length
  | [], _ => by simp [sumC]
  | s :: ss, h => by
    have ih := sumC_all (ss := ss) (fun t ht => h t (List.mem_cons_of_mem _ ht))
    have hs := h s (List.mem_cons_self ..)
    simp [sumC, ih, hs]; omega
theorem sumC_bd : ∀ {ss : List Ad}, (∀ s ∈ ss, WOk s) → 0 ≤ sumC ss ∧ sumC ss ≤ 5 * ss.length
  | [], _ => by simp [sumC]
  | s :: ss, h => by
    have ih := sumC_bd (ss := ss) (fun t ht => h t (List.mem_cons_of_mem _ ht))
    have hs := (h s (List.mem_cons_self ..)).2
    simp only [sumC, List.length_cons]
    rcases hs with hs | hs | hs <;> omega
end Go.Proofs.Ytkpagkopfdblgaa
