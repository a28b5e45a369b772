/- 'Keeps w w'': whatever lay in memory lies there as it did; new blocks may be there. -/
import Derived.Test.YtaecapjicphdkaaGreatBase
namespace Go.Proofs.YtaecapjicphdkaaGreat
set_option linter.unusedVariables false
set_option linter.unusedSimpArgs false
open Go Go.RowKit

def Keeps (w w' : World) : Prop := Below w.heap.size w w'
theorem Keeps.refl (w : World) : Keeps w w := Below.refl _ _
theorem Keeps.size {w w' : World} (h : Keeps w w') : w.heap.size ≤ w'.heap.size := Below.size h
theorem Keeps.block {w w' : World} (h : Keeps w w') {k : Nat} (hk : k < w.heap.size) : w'.heap[k]? = w.heap[k]? := Below.block h k hk
theorem Keeps.trans {a b c : World} (h : Keeps a b) (k : Keeps b c) : Keeps a c := Below.trans h (Below.mono k h.size)
theorem Keeps.drewN {a b : World} (h : Keeps a b) (n : Nat) : Keeps a (b.drewN n) := h.trans (below_drewN _ _ _)
theorem Keeps.drew {a b : World} (h : Keeps a b) : Keeps a b.drew := Below.drew h
theorem Keeps.alloc {a b : World} (h : Keeps a b) (o : Obj) : Keeps a (b.alloc o) := Below.alloc h h.size o
theorem Keeps.setCell {a b : World} (h : Keeps a b) {p : Addr} (hp : a.heap.size ≤ p.block) (u : Value) : Keeps a (b.setCell p u) := Below.setCell h hp u
theorem Keeps.cell {w w' : World} (h : Keeps w w') {b o : Nat} (hb : b < w.heap.size) : w'.cell? ⟨b, o, none⟩ = w.cell? ⟨b, o, none⟩ := Below.cell (p := ⟨b, o, none⟩) h hb
theorem Keeps.frozen {w w' : World} (h : Keeps w w') {b o : Nat} (hb : b < w.heap.size) : w'.frozen? ⟨b, o, none⟩ = w.frozen? ⟨b, o, none⟩ := Below.frozen (p := ⟨b, o, none⟩) h hb
/-- Blocks that lie in a memory of so many blocks. -/
def Live (L : List Nat) (s : Nat) : Prop := ∀ x ∈ L, x < s ∧ x ≤ s
theorem Live.nil (s : Nat) : Live [] s := fun x h => by cases h
theorem Live.step0 {L : List Nat} {s s' : Nat} (h : Live L s) (hs : s ≤ s') : Live L s' := fun x hx => by have := (h x hx).1; omega
theorem Live.step1 {L : List Nat} {s s' : Nat} (h : Live L s) (hs : s + 1 ≤ s') : Live (s :: L) s' := fun x hx => by
  rcases List.mem_cons.1 hx with rfl | hx
  · omega
  · have := (h x hx).1; omega
theorem Live.step2 {L : List Nat} {s s' : Nat} (h : Live L s) (hs : s + 1 + 1 ≤ s') : Live ((s + 1) :: s :: L) s' := (h.step1 (s' := s + 1) (Nat.le_refl _)).step1 hs
theorem Live.step3 {L : List Nat} {s s' : Nat} (h : Live L s) (hs : s + 1 + 1 + 1 ≤ s') : Live ((s + 1 + 1) :: (s + 1) :: s :: L) s' := (h.step2 (s' := s + 1 + 1) (Nat.le_refl _)).step1 hs
theorem Live.step4 {L : List Nat} {s s' : Nat} (h : Live L s) (hs : s + 1 + 1 + 1 + 1 ≤ s') : Live ((s + 1 + 1 + 1) :: (s + 1 + 1) :: (s + 1) :: s :: L) s' := (h.step3 (s' := s + 1 + 1 + 1) (Nat.le_refl _)).step1 hs
theorem Keeps.of_drewN {w : World} (k : Nat) : Keeps w (w.drewN k) := below_drewN _ _ _

/-- A world that keeps what lay in w. -/
structure After (w : World) where
  world : World
  keeps : Keeps w world
instance (w : World) : Nonempty (After w) := ⟨⟨w, Keeps.refl w⟩⟩
@[go_sem] theorem After.cell {w : World} (u : After w) {b o : Nat} (h : b < w.heap.size) : u.world.cell? ⟨b, o, none⟩ = w.cell? ⟨b, o, none⟩ := u.keeps.cell h
@[go_sem] theorem After.frozen {w : World} (u : After w) {b o : Nat} (h : b < w.heap.size) : u.world.frozen? ⟨b, o, none⟩ = w.frozen? ⟨b, o, none⟩ := u.keeps.frozen h
/-- A region that draws its order, whose operations read and whose callees keep what lies in memory: one walk, in the text's order. -/
theorem wp_region_after_lit {P : Program} {id : Nat} {Q : Exit → Act → World → Prop} {a : Act} {w : World} {l : List Oper} (hm : P.follows .mixedOrders = true) (hB : Region.lexB .any l.toArray = true)
    (h : wpQuiet P l.toArray (fun w' => ∃ u : After w, w' = u.world) (fun a' => ∀ w', (∃ u : After w, w' = u.world) → Q .normal a' w') l a) : (Code.region id l.toArray true).wp P Q a w :=
  wp_region_quiet (C := fun w' => ∃ u : After w, w' = u.world) hm hB ⟨⟨_, below_drewN _ _ 1⟩, rfl⟩ (by simpa using h)
theorem calls_after {P : Program} {f : FuncId} {args : Array Value} {w : World} {u : After w} {v : Value}
    (h : Calls P f args u.world fun e w' => e = .returned v ∧ Keeps u.world w') : Calls P f args u.world fun e w'' => e = .returned v ∧ ∃ u' : After w, w'' = u'.world :=
  h.mono fun _ w' ⟨he, hw⟩ => ⟨he, ⟨w', u.keeps.trans hw⟩, rfl⟩
theorem calls_after_drewN {P : Program} {f : FuncId} {args : Array Value} {w : World} {u : After w} {v : Value}
    (h : Calls P f args u.world fun e w' => e = .returned v ∧ ∃ k, w' = u.world.drewN k) : Calls P f args u.world fun e w'' => e = .returned v ∧ ∃ u' : After w, w'' = u'.world :=
  calls_after (h.mono fun _ w' ⟨he, k, hw⟩ => ⟨he, by rw [hw]; exact Keeps.of_drewN _⟩)
theorem calls_after_same {P : Program} {f : FuncId} {args : Array Value} {w : World} {u : After w} {v : Value}
    (h : Calls P f args u.world fun e w' => e = .returned v ∧ u.world = w') : Calls P f args u.world fun e w'' => e = .returned v ∧ ∃ u' : After w, w'' = u'.world :=
  calls_after (h.mono fun _ w' ⟨he, hw⟩ => ⟨he, by rw [← hw]; exact Keeps.refl _⟩)

end Go.Proofs.YtaecapjicphdkaaGreat
