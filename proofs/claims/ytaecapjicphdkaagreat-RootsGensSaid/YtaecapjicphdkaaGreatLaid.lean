/- Facts on the program's head, by its first words alone (each is true of this program, with no condition). -/
import Derived.Test.YtaecapjicphdkaaGreatRows
import Derived.JoinedOf
import Derived.KernelRfl
namespace Go.Proofs.YtaecapjicphdkaaGreat
set_option linter.unusedVariables false
set_option linter.unusedSimpArgs false
open Go

theorem wordsSigns_word : ∀ (l r : List Char), (∀ c ∈ l, c ≠ ' ') → wordsSigns (l ++ ' ' :: r) = l :: wordsSigns r
  | [], r, _ => by rw [List.nil_append, wordsSigns]
  | c :: l, r, h => by
    have hc : c ≠ ' ' := h c (List.mem_cons_self ..)
    rw [List.cons_append, wordsSigns.eq_3 _ _ (fun e => hc e), wordsSigns_word l r (fun x hx => h x (List.mem_cons_of_mem _ hx))]
def headCheck (l : List Char) : Bool := l.take 8 == "harness ".toList && isSumSigns ((l.drop 8).take 64) && (l.drop 72).take 5 == " cut ".toList
theorem sum_nospace {s : List Char} (h : isSumSigns s = true) : ∀ c ∈ s, c ≠ ' ' := by
  intro c hc e
  unfold isSumSigns at h
  simp only [Bool.and_eq_true, List.all_eq_true] at h
  have := h.2 c hc
  rw [e] at this
  revert this; decide
theorem head_of_check {l : List Char} (h : headCheck l = true) : ∃ r, behindMainWord (wordsSigns l) = "cut".toList :: r := by
  unfold headCheck at h
  simp only [Bool.and_eq_true, beq_iff_eq] at h
  obtain ⟨⟨h1, h2⟩, h3⟩ := h
  have e : l = "harness".toList ++ ' ' :: ((l.drop 8).take 64 ++ ' ' :: ("cut".toList ++ ' ' :: l.drop 77)) := by
    conv => lhs; rw [← List.take_append_drop 8 l, h1, ← List.take_append_drop 64 (l.drop 8), List.drop_drop, ← List.take_append_drop 5 (l.drop (8 + 64)), List.drop_drop, h3]
    simp
  rw [e, wordsSigns_word _ _ (by decide), wordsSigns_word _ _ (sum_nospace h2), wordsSigns_word _ _ (by decide)]
  refine ⟨wordsSigns (l.drop 77), ?_⟩
  unfold behindMainWord
  dsimp only
  rw [if_pos (by rw [h2]; decide)]
theorem lifts_none (r : List (List Char)) : stripLifts liftWords ("cut".toList :: r) = ([], "cut".toList :: r) := by
  simp [stripLifts, liftWords]
theorem lifted_of {P : Program} (h : ∃ r, behindMainWord (wordsSigns P.initOrder.toList) = "cut".toList :: r) : P.liftsFinal = false := by
  obtain ⟨r, h⟩ := h
  unfold Program.liftsFinal Program.headLifts
  rw [h, lifts_none]
  simp
theorem make_of {P : Program} (h : ∃ r, behindMainWord (wordsSigns P.initOrder.toList) = "cut".toList :: r) : P.make = some .cut := by
  obtain ⟨r, h⟩ := h
  unfold Program.make
  rw [h]
  simp
theorem mayEnter_of {P : Program} (h : ∃ r, behindMainWord (wordsSigns P.initOrder.toList) = "cut".toList :: r) (h1 : P.laysLater = false) (h2 : P.bearsReflect = false) (h3 : P.doorFits [] = true) : P.mayEnter = true := by
  obtain ⟨r, h⟩ := h
  unfold Program.mayEnter
  rw [h]
  dsimp only
  rw [lifts_none, h1, h2, h3]
  simp
set_option maxRecDepth 1000000 in
theorem head_list : ∃ l, Tryz.prog.initOrder = String.ofList l ∧ headCheck l = true := ⟨_, rfl, by kernel_rfl⟩
theorem head_ok : headCheck Tryz.prog.initOrder.toList = true := by
  obtain ⟨l, h, hl⟩ := head_list
  rw [h, String.toList_ofList]; exact hl
theorem mayEnter_ok : Tryz.prog.mayEnter = true := mayEnter_of (head_of_check head_ok) (by kernel_rfl) (by kernel_rfl) (by kernel_rfl)
theorem lifted_ok : Tryz.prog.liftsFinal = false := lifted_of (head_of_check head_ok)
theorem make_ok : Tryz.prog.make = some .cut := make_of (head_of_check head_ok)
theorem mayEnter_at : Program.mayEnter Tryz.pinned.checked.prog = true := mayEnter_ok
theorem lifted_at : Program.liftsFinal Tryz.pinned.checked.prog = false := lifted_ok
theorem make_at : Program.make Tryz.pinned.checked.prog = some .cut := make_ok
end Go.Proofs.YtaecapjicphdkaaGreat
