/- The chapter's example of stacks, walked; a Step of one by himself. -/
import Derived.Test.YtcohhfndaogikaaStackI
namespace Go.Proofs.Ytcohhfndaogikaa
set_option linter.unusedVariables false
set_option linter.unusedSimpArgs false
open Go Go.RowKit
set_option maxRecDepth 100000
set_option maxHeartbeats 1000000

section
variable {w : World} {S m b N hd lk n B : Nat} {cc cc0 : Int} {x : Acc} {g : Nat} {v : Value} {k : Nat} {C : Int}
/-- A Pop alone: k steps done, one more. -/
theorem poRunStep_c {p : List Int × Po} (o : Bool) (ho : decide ((poRun hd lk n k p).2.ph < 3) = o) (hg : PoRep w B g S v (poRun hd lk n k p).2) (hS : Has w S (stackOf m hd lk n) 138) (M : Mem w m b N (poRun hd lk n k p).1 (cc0 + (poRun hd lk n k p).2.c) x)
    (L : StOk hd lk n N p.1) (H : PoInv n C p.2) (hC : C + k ≤ 400000) (hB : B ≤ w.heap.size) (h0 : cc0 ≤ 4000000000000) :
    Calls Try.prog 48 #[.pointer (some ⟨g, 0, none⟩)] w fun e w' => ∃ v', e = .returned (.bool o) ∧ Upd (g :: m :: b :: ownB v) w w' ∧
      PoRep w' B g S v' (poRun hd lk n (k + 1) p).2 ∧ Has w' S (stackOf m hd lk n) 138 ∧ (∃ x', Mem w' m b N (poRun hd lk n (k + 1) p).1 (cc0 + (poRun hd lk n (k + 1) p).2.c) x') ∧ (∀ y ∈ ownB v', y ∈ ownB v ∨ w.heap.size ≤ y) := by
  have hI := poRun_inv L H k
  have ngS : S ≠ g := (Has.ne hg.has hS (by decide)).symm
  have ngm : S ≠ m := hS.ne M.hg (by decide)
  have ngb : S ≠ b := hS.ne M.hb (by decide)
  have nr := hg.row.ne hS (by decide)
  have hc1 := hI.2.c1
  refine (poStep_c hg hS M hI.1 (hI.2.ok (by omega)) hB (by omega)).mono ?_
  rintro e w' ⟨v', rfl, hu, hA, ⟨x', M'⟩, hv⟩
  refine ⟨v', by rw [ho], hu, hA, hS.upd hu (by simp; exact ⟨ngS, ngm, ngb, fun hx => nr _ hx rfl⟩), ⟨x', ?_⟩, hv⟩
  have e : (poRun hd lk n (k + 1) p).2.c = (poRun hd lk n k p).2.c + poCount (poRun hd lk n k p).2 := poStep_count _ _ _ _ _
  rw [e, ← Int.add_assoc]
  exact M'
theorem puRunStep_c {p : List Int × Pu} (o : Bool) (ho : decide ((puRun hd lk n k p).2.ph < 4) = o) (hg : PuRep w B g S v (puRun hd lk n k p).2) (hS : Has w S (stackOf m hd lk n) 138) (M : Mem w m b N (puRun hd lk n k p).1 (cc0 + (puRun hd lk n k p).2.c) x)
    (L : StOk hd lk n N p.1) (H : PuInv n C p.2) (hC : C + k ≤ 400000) (h0 : cc0 ≤ 4000000000000) :
    Calls Try.prog 56 #[.pointer (some ⟨g, 0, none⟩)] w fun e w' => e = .returned (.bool o) ∧ Upd [g, m, b] w w' ∧
      PuRep w' B g S v (puRun hd lk n (k + 1) p).2 ∧ Has w' S (stackOf m hd lk n) 138 ∧ (∃ x', Mem w' m b N (puRun hd lk n (k + 1) p).1 (cc0 + (puRun hd lk n (k + 1) p).2.c) x') := by
  have hI := puRun_inv L H k
  have ngS : S ≠ g := (Has.ne hg.has hS (by decide)).symm
  have ngm : S ≠ m := hS.ne M.hg (by decide)
  have ngb : S ≠ b := hS.ne M.hb (by decide)
  have hc1 := hI.2.c1
  refine (puStep_c hg hS M hI.1 (hI.2.ok (by omega)) (by omega)).mono ?_
  rintro e w' ⟨rfl, hu, hA, x', M'⟩
  refine ⟨by rw [ho], hu, hA, hS.upd hu (by simp; exact ⟨ngS, ngm, ngb⟩), x', ?_⟩
  have e : (puRun hd lk n (k + 1) p).2.c = (puRun hd lk n k p).2.c + puCount (puRun hd lk n k p).2 := puStep_count _ _ _
  rw [e, ← Int.add_assoc]
  exact M'
end
theorem hS_ne {w : World} {S m b N : Nat} {h lk n : Int} {l : List Int} {cc : Int} {x : Acc} (hS : Has w S (stackOf m h lk n) 138) (M : Mem w m b N l cc x) : S ∉ [m, b] := by
  simp only [List.mem_cons, List.not_mem_nil, or_false, not_or]
  exact ⟨hS.ne M.hg (by decide), hS.ne M.hb (by decide)⟩
theorem ge_mb {A m b : Nat} (h2 : A ≤ m) (h3 : A ≤ b) : ∀ y ∈ [m, b], A ≤ y := by
  intro y hy
  simp only [List.mem_cons, List.not_mem_nil, or_false] at hy
  rcases hy with rfl | rfl
  · exact h2
  · exact h3
theorem ge_po {A g m b : Nat} {v : Value} (h1 : A ≤ g) (h2 : A ≤ m) (h3 : A ≤ b) (h4 : ∀ y ∈ ownB v, A ≤ y) : ∀ y ∈ g :: m :: b :: ownB v, A ≤ y := by
  intro y hy
  simp only [List.mem_cons] at hy
  rcases hy with rfl | rfl | rfl | hy
  · exact h1
  · exact h2
  · exact h3
  · exact h4 y hy
theorem ge_pu {A g m b : Nat} (h1 : A ≤ g) (h2 : A ≤ m) (h3 : A ≤ b) : ∀ y ∈ [g, m, b], A ≤ y := by
  intro y hy
  simp only [List.mem_cons, List.not_mem_nil, or_false] at hy
  rcases hy with rfl | rfl | rfl
  · exact h1
  · exact h2
  · exact h3
theorem PoRep.keeps {w w' : World} {B g S : Nat} {v : Value} {s : Po} (h : PoRep w B g S v s) (k : Keeps w w') : PoRep w' B g S v s := ⟨h.has.keeps k, h.row.keeps k⟩
theorem PuRep.keeps {w w' : World} {B g S : Nat} {v : Value} {s : Pu} (h : PuRep w B g S v s) (k : Keeps w w') : PuRep w' B g S v s := ⟨h.has.keeps k, h.row.keeps k⟩
theorem table_c (n : Nat) (w : World) (h0 : 1 ≤ n) (h1 : n ≤ 4096) :
    Calls Try.prog 42 #[.int .i64 n] w fun e w' => ∃ m b S : Nat, e = .returned (.tuple #[.pointer (some ⟨m, 0, none⟩), .pointer (some ⟨S, 0, none⟩)]) ∧ Keeps w w' ∧ w.heap.size ≤ m ∧ w.heap.size ≤ b ∧ w.heap.size ≤ S ∧
      Mem w' m b (n + 2) (List.replicate (n + 2) 0) 0 ⟨0, 0, 0, 0, false⟩ ∧ Has w' S (stackOf m (0 : Nat) (2 : Nat) n) 138 := by
  go_enter Try.func42, Try.ntmps42
  go_wp2_with (first
    | (go_at_call 24; refine (mnew_int _ _ (by omega) (by omega)).mono ?_; rintro e w' ⟨m, b, rfl, hk, hm, hb, M⟩)
    | (go_at_call 40; refine (stackNew_c _ _ _ M (by omega) (by omega) (by omega) (by omega) (by omega) (by omega) (by omega)).mono ?_; rintro e w' ⟨S, rfl, hk2, hS, HS⟩))
  go_ret2
  have := hk.size
  exact ⟨m, b, S, rfl, hk.trans hk2, hm, hb, by omega, (M.keeps hk2), HS⟩
theorem StOk.zero (n : Nat) (h : n ≤ 4096) : StOk 0 2 n (n + 2) (List.replicate (n + 2) 0) :=
  ⟨by simp, by omega, by omega, by omega, h, fun v hv => by have := List.eq_of_mem_replicate hv; omega⟩
end Go.Proofs.Ytcohhfndaogikaa
