/- table at a number of any spelling; an empty stack. -/
import Derived.Test.YtcohhfndaogikaaStackAl
namespace Go.Proofs.Ytcohhfndaogikaa
set_option linter.unusedVariables false
set_option linter.unusedSimpArgs false
open Go Go.RowKit
set_option maxRecDepth 100000

theorem table_i (a : Int) (n : Nat) (ha : a = n) (w : World) (h0 : 1 ≤ n) (h1 : n ≤ 4096) :
    Calls Try.prog 42 #[.int .i64 a] w fun e w' => ∃ m b S : Nat, e = .returned (.tuple #[.pointer (some ⟨m, 0, none⟩), .pointer (some ⟨S, 0, none⟩)]) ∧ Keeps w w' ∧ w.heap.size ≤ m ∧ w.heap.size ≤ b ∧ w.heap.size ≤ S ∧
      Mem w' m b (n + 2) (List.replicate (n + 2) 0) 0 ⟨0, 0, 0, 0, false⟩ ∧ Has w' S (stackOf m (0 : Nat) (2 : Nat) n) 138 := by subst ha; exact table_c n w h0 h1
theorem stRep_zero (n : Nat) (h : n ≤ 4096) : StRep 0 2 n (n + 2) (List.replicate (n + 2) 0) 0 [] :=
  ⟨StOk.zero n h, .inl (by omega), by simp [List.replicate_succ], by simp [List.replicate_succ], by simp [List.replicate_succ, Lnk, topI], by simp⟩
end Go.Proofs.Ytcohhfndaogikaa
