/- Slices of the call's own, of elements of one cell. -/
import Derived.Test.YtaecapjicphdkaaGreatHeap
import Derived.Deep.AppendLies
namespace Go.Proofs.YtaecapjicphdkaaGreat
set_option linter.unusedVariables false
set_option linter.unusedSimpArgs false
open Go Go.RowKit
set_option maxRecDepth 100000

/-- The block of a slice's cells. -/
def ownB (v : Value) : List Nat := v.ownBlock.toList
@[simp] theorem ownB_nil (n c : Nat) : ownB (.slice none n c) = [] := rfl
@[simp] theorem ownB_some (g o n c : Nat) (r : Option Value) : ownB (.slice (some ⟨g, o, none⟩) n c) = [g] := rfl
theorem Upd.grown {w w' : World} {v : Value} (h : w.grownBy w' v.ownBlock) : Upd (ownB v) w w' :=
  ⟨h.os, h.tape, h.output, h.size, fun k hk hn => h.block k hk (fun e => hn (by simp [ownB, ← e]))⟩
/-- A slice of the call's own (its block, if any, is B at least), its elements. -/
def Row (B : Nat) (t : TypeId) (w : World) (v : Value) (xs : List Value) : Prop := w.ownsRow B t 1 v xs.length xs
section
variable {B g : Nat} {t u : TypeId} {w w' : World} {v : Value} {xs : List Value} {S : List Nat} {cs : Array Value}
theorem Row.nil (B : Nat) (t : TypeId) (w : World) : Row B t w (.slice none 0 0) [] := World.ownsRow_nil _ _ _ _
theorem Row.form (h : Row B t w v xs) : ∃ a cap, v = .slice a xs.length cap ∧ (xs ≠ [] → ∃ b, a = some ⟨b, 0, none⟩ ∧ B ≤ b ∧ b < w.heap.size ∧ ∀ (k : Nat) x, xs[k]? = some x → w.cell? ⟨b, k, none⟩ = some x) := by
  obtain ⟨hl, ⟨rfl, hn⟩ | ⟨g, cap, cur, rfl, hB, hg, h1, h2, h3, h4⟩⟩ := h
  · exact ⟨none, 0, by rw [hn], fun h => absurd (List.length_eq_zero_iff.1 hn) h⟩
  · refine ⟨some ⟨g, 0, none⟩, cap, rfl, fun _ => ⟨g, rfl, hB, (Array.getElem?_eq_some_iff.1 hg).1, fun k x hk => ?_⟩⟩
    have hk2 := (List.getElem?_eq_some_iff.1 hk).1
    rw [← h4, List.getElem?_take_of_lt (by omega)] at hk
    simp [World.cell?, hg]
    simpa using hk
theorem Row.own (h : Row B t w v xs) : ∀ x ∈ ownB v, B ≤ x ∧ x < w.heap.size := by
  intro x hx
  exact World.ownsRow.lt h x (by simpa [ownB] using hx)
theorem Row.upd (h : Row B t w v xs) (hu : Upd S w w') (hS : ∀ x ∈ ownB v, x ∉ S) : Row B t w' v xs := by
  obtain ⟨hl, ⟨rfl, hn⟩ | ⟨g, cap, cur, rfl, hB, hg, h1⟩⟩ := h
  · exact ⟨hl, .inl ⟨rfl, hn⟩⟩
  · refine ⟨hl, .inr ⟨g, cap, cur, rfl, hB, ?_, h1⟩⟩
    rw [hu.block g (Array.getElem?_eq_some_iff.1 hg).1 (hS g (by simp [ownB, Value.ownBlock]))]
    exact hg
theorem Row.keeps (h : Row B t w v xs) (hk : Keeps w w') : Row B t w' v xs := h.upd (Upd.of_keeps (S := []) hk) (fun _ _ => by simp)
theorem Row.alloc (h : Row B t w v xs) (o : Obj) : Row B t (w.alloc o) v xs := h.keeps ((Keeps.refl w).alloc o)
theorem Row.drewN (h : Row B t w v xs) (n : Nat) : Row B t (w.drewN n) v xs := h.keeps (Keeps.of_drewN n)
theorem Row.drew (h : Row B t w v xs) : Row B t w.drew v xs := h.keeps (Keeps.refl w).drew
theorem Row.far (h : Row B t w v xs) {p : Addr} (hp : ∀ x ∈ ownB v, x ≠ p.block) (y : Value) : Row B t (w.setCell p y) v xs :=
  h.upd ((Upd.refl [p.block] w).setCell (.inl (by simp)) y) (fun x hx => by simp; exact hp x hx)
theorem Row.ne (h : Row B t w v xs) (hg : Has w g cs u) (hn : t ≠ u) : ∀ x ∈ ownB v, x ≠ g := by
  obtain ⟨hl, ⟨rfl, hn⟩ | ⟨b, cap, cur, rfl, hB, hb, h1⟩⟩ := h
  · intro x hx; simp at hx
  · intro x hx
    simp [ownB, Value.ownBlock] at hx
    subst hx
    exact Has.ne (g := x) hb hg hn
theorem Row.ne2 {B' : Nat} {v' : Value} {ys : List Value} (h : Row B t w v xs) (k : Row B' u w v' ys) (hn : t ≠ u) : ∀ x ∈ ownB v, x ∉ ownB v' := by
  obtain ⟨hl, ⟨rfl, hn⟩ | ⟨b, cap, cur, rfl, hB, hb, h1⟩⟩ := h
  · intro x hx; simp at hx
  · intro x hx hx2
    simp [ownB, Value.ownBlock] at hx
    subst hx
    exact k.ne (g := x) hb (Ne.symm hn) x hx2 rfl
theorem Row.snoc {n : Nat} {x : Value} (h : w.ownsRow B t 1 v (n + 1) (xs ++ [x])) (hn : n = xs.length) : Row B t w v (xs ++ [x]) := by
  subst hn
  unfold Row
  rw [List.length_append]
  exact h
theorem Row.of {n : Nat} (h : w.ownsRow B t 1 v n xs) (hn : n = xs.length) : Row B t w v xs := by subst hn; exact h
theorem Row.mono {B' : Nat} (h : Row B t w v xs) (hB : B' ≤ B) : Row B' t w v xs := by
  obtain ⟨hl, h | ⟨g, cap, cur, h1, h2, h3⟩⟩ := h
  · exact ⟨hl, .inl h⟩
  · exact ⟨hl, .inr ⟨g, cap, cur, h1, Nat.le_trans hB h2, h3⟩⟩
theorem own_form {k n : Nat} (h : w.ownsRow B t k v n xs) : ∃ a cap, v = .slice a n cap := by
  obtain ⟨_, ⟨rfl, hn⟩ | ⟨g, cap, cur, rfl, _⟩⟩ := h
  · exact ⟨none, 0, by rw [hn]⟩
  · exact ⟨_, _, rfl⟩
theorem own_upd {k n : Nat} (h : w.ownsRow B t k v n xs) (hu : Upd S w w') (hS : ∀ x ∈ ownB v, x ∉ S) : w'.ownsRow B t k v n xs := by
  obtain ⟨hl, ⟨rfl, hn⟩ | ⟨g, cap, cur, rfl, hB, hg, h1⟩⟩ := h
  · exact ⟨hl, .inl ⟨rfl, hn⟩⟩
  · refine ⟨hl, .inr ⟨g, cap, cur, rfl, hB, ?_, h1⟩⟩
    rw [hu.block g (Array.getElem?_eq_some_iff.1 hg).1 (hS g (by simp [ownB, Value.ownBlock]))]
    exact hg
theorem own_ne {k n : Nat} (h : w.ownsRow B t k v n xs) (hg : Has w g cs u) (hn : t ≠ u) : ∀ x ∈ ownB v, x ≠ g := by
  obtain ⟨hl, ⟨rfl, hn⟩ | ⟨b, cap, cur, rfl, hB, hb, h1⟩⟩ := h
  · intro x hx; simp at hx
  · intro x hx
    simp [ownB, Value.ownBlock] at hx
    subst hx
    exact Has.ne (g := x) hb hg hn
theorem own_lt {k n : Nat} (h : w.ownsRow B t k v n xs) : ∀ x ∈ ownB v, B ≤ x ∧ x < w.heap.size := fun x hx => World.ownsRow.lt h x (by simpa [ownB] using hx)
theorem own_keeps {k n : Nat} (h : w.ownsRow B t k v n xs) (hk : Keeps w w') : w'.ownsRow B t k v n xs := own_upd h (Upd.of_keeps (S := []) hk) (fun _ _ => by simp)
/-- One element, laid in a block of its own. -/
theorem news_one {w : World} {b : Nat} {x : Value} {t : TypeId} (h : Has w b #[x] t) : ∀ (j : Nat) y, [x][j]? = some y → w.cell? ((⟨b, 0, none⟩ : Addr).add j) = some y := by
  intro j y hj
  exact World.news_of_block h j y (by simpa using hj)
end
/-- A pointer to a block's first cell. -/
@[reducible] def ptr (g : Nat) : Value := .pointer (some ⟨g, 0, none⟩)
/-- A pointer, or nil. -/
def optr (o : Option Nat) : Value := .pointer (o.map fun g => ⟨g, 0, none⟩)
@[simp] theorem optr_none : optr none = .pointer none := rfl
@[simp] theorem optr_some (g : Nat) : optr (some g) = ptr g := rfl
/-- An array of pointers. -/
def optrs (os : List (Option Nat)) : Array Value := (os.map optr).toArray
theorem optrs_at {os : List (Option Nat)} {i : Nat} {o : Option Nat} (h : os[i]? = some o) : (optrs os)[i]? = some (optr o) := by
  simp [optrs, h]
theorem optrs_set (os : List (Option Nat)) (i : Nat) (o : Option Nat) : (optrs os).setIfInBounds i (optr o) = optrs (os.set i o) := by
  simp [optrs]
end Go.Proofs.YtaecapjicphdkaaGreat
