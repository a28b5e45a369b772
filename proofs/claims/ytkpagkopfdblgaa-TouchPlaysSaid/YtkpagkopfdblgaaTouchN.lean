/- touch.New, Touch, walked. -/
import Derived.Test.YtkpagkopfdblgaaTouchW
namespace Go.Proofs.Ytkpagkopfdblgaa
set_option linter.unusedVariables false
set_option linter.unusedSimpArgs false
open Go Go.RowKit
set_option maxRecDepth 100000
attribute [local go_sem ↓] Go.wp_at_zero Go.wp_at_succ
set_option maxHeartbeats 1000000

/-- A configuration. -/
abbrev cfgV (p k d s c b : Int) : Value := .agg #[.int .i64 p, .int .i64 k, .int .i64 d, .int .i64 s, .int .i64 c, .int .i64 b]
abbrev cfgA (p k d s c b : Int) : Array Value := #[.int .i64 p, .int .i64 k, .int .i64 d, .int .i64 s, .int .i64 c, .int .i64 b]
def wordsOf (m : Nat) (p k d s c b : Int) : Array Value := #[.pointer (some ⟨m, 0, none⟩), .int .i64 p, .int .i64 k, .int .i64 d, .int .i64 s, .int .i64 c, .int .i64 b]
theorem wp_named' {P : Program} {c : Code} {Q : Exit → Act → World → Prop} {a : Act} {w : World} (h : ∀ W, W = w → c.wp P Q a W) : c.wp P Q a w := h w rfl
section
variable {w : World} {m bb N : Nat} {l : List Int} {cc : Int} {x : Acc} {p k d s c b : Int}
theorem touchNew_c (M : Mem w m bb N l cc x) (hm : mayB p k d s c b = true) (hN : lenI p k d s c b ≤ N) :
    Calls Try.prog 57 #[.pointer (some ⟨m, 0, none⟩), cfgV p k d s c b] w fun e w' => ∃ W, e = .returned (.tuple #[.pointer (some ⟨W, 0, none⟩), .int .i64 0]) ∧ Keeps w w' ∧ w.heap.size ≤ W ∧ Has w' W (wordsOf m p k d s c b) 155 := by
  have HM := Lib.hid hm
  obtain ⟨q, hq⟩ : ∃ q, lenI p k d s c b = q := ⟨_, rfl⟩
  have HQ := Lib.hid hq
  rw [hq] at hN
  have hlt : ¬ (N : Int) < q := by omega
  clear hm hq
  go_enter Try.func57, Try.ntmps57
  go_wp2
  refine wp_named' (fun W1 hW => ?_)
  have HK : Keeps w W1 := by rw [hW]; ((repeat' (first | (with_reducible exact Keeps.refl _) | (with_reducible assumption) | (with_reducible refine Keeps.drewN ?_ _) | (with_reducible refine Keeps.drew ?_) | (with_reducible refine Keeps.alloc ?_ _) | (with_reducible refine Keeps.setCell ?_ ?_ _) | (with_reducible refine Keeps.trans ?_ (After.keeps _)) | (with_reducible refine Keeps.trans ?_ (by with_reducible assumption)) | go_size)); (first | done | fail))
  have HC : Has W1 w.heap.size (cfgA p k d s c b) 84 := by rw [hW]; (apply Has.congr; (focus ((repeat (first | (with_reducible assumption) | (with_reducible exact Has.new _ _ _) | (with_reducible exact Has.new1 _ _ _ _) | (with_reducible exact Has.new2 _ _ _ _ _) | (with_reducible refine Has.newAt ?_; (simp; done)) | (with_reducible apply Has.set) | (with_reducible apply Has.far; (case hn => first | assumption | (simp; done) | (intro e_; simp at e_; omega))) | (with_reducible apply Has.alloc) | (with_reducible apply Has.drewN) | (with_reducible apply Has.drew) | (with_reducible refine Has.keeps ?_ (by with_reducible assumption)))))); (first | rfl | (simp; done)))
  clear hW
  go_region_held3 (fun y => (((y.cell? ⟨w.heap.size, 0, none⟩ = some (.int .i64 p) ∧ y.cell? ⟨w.heap.size, 1, none⟩ = some (.int .i64 k)) ∧ y.cell? ⟨w.heap.size, 2, none⟩ = some (.int .i64 d)) ∧ y.cell? ⟨w.heap.size, 3, none⟩ = some (.int .i64 s)) ∧ y.cell? ⟨w.heap.size, 4, none⟩ = some (.int .i64 c) ∧ y.cell? ⟨w.heap.size, 5, none⟩ = some (.int .i64 b)) (((repeat' (with_reducible apply And.intro)) <;> (apply Has.cellv; (focus ((repeat (first | (with_reducible assumption) | (with_reducible exact Has.new _ _ _) | (with_reducible exact Has.new1 _ _ _ _) | (with_reducible exact Has.new2 _ _ _ _ _) | (with_reducible refine Has.newAt ?_; (simp; done)) | (with_reducible apply Has.set) | (with_reducible apply Has.far; (case hn => first | assumption | (simp; done) | (intro e_; simp at e_; omega))) | (with_reducible apply Has.alloc) | (with_reducible apply Has.drewN) | (with_reducible apply Has.drew) | (with_reducible refine Has.keeps ?_ (by with_reducible assumption)))))); (first | (with_reducible assumption) | rfl | (simp; done) | fail))))
    (first
      | (go_at_call 86; refine (may_c _ _ _ _ _ _ _).mono ?_; rintro e w' ⟨rfl, hk5⟩; rw [HM.out]; have HC := (HC.keeps (by ((repeat' (first | (with_reducible exact Keeps.refl _) | (with_reducible assumption) | (with_reducible refine Keeps.drewN ?_ _) | (with_reducible refine Keeps.drew ?_) | (with_reducible refine Keeps.alloc ?_ _) | (with_reducible refine Keeps.setCell ?_ ?_ _) | (with_reducible refine Keeps.trans ?_ (After.keeps _)) | (with_reducible refine Keeps.trans ?_ (by with_reducible assumption)) | go_size)); (first | done | fail)))).keeps hk5; have HK := (HK.drew).trans hk5)
      | (go_at_call 32; refine (mlen (M.keeps (by ((repeat' (first | (with_reducible exact Keeps.refl _) | (with_reducible assumption) | (with_reducible refine Keeps.drewN ?_ _) | (with_reducible refine Keeps.drew ?_) | (with_reducible refine Keeps.alloc ?_ _) | (with_reducible refine Keeps.setCell ?_ ?_ _) | (with_reducible refine Keeps.trans ?_ (After.keeps _)) | (with_reducible refine Keeps.trans ?_ (by with_reducible assumption)) | go_size)); (first | done | fail))))).mono ?_; rintro e w' ⟨rfl, rfl⟩)
      | (go_at_call 56; refine (len_c _ _ _ _ _ _ _).mono ?_; rintro e w' ⟨rfl, hk6⟩; rw [HQ.out]; have HC := HC.keeps hk6; have HK := HK.trans hk6))
  have FX_ := (HC).facts; simp only [blockFacts, listFacts, cellsAt, Nat.reduceAdd, and_true, true_and, and_assoc] at FX_
  go_wp2
  go_ret2
  exact ⟨w'.heap.size, rfl, by ((repeat' (first | (with_reducible exact Keeps.refl _) | (with_reducible assumption) | (with_reducible refine Keeps.drewN ?_ _) | (with_reducible refine Keeps.drew ?_) | (with_reducible refine Keeps.alloc ?_ _) | (with_reducible refine Keeps.setCell ?_ ?_ _) | (with_reducible refine Keeps.trans ?_ (After.keeps _)) | (with_reducible refine Keeps.trans ?_ (by with_reducible assumption)) | go_size)); (first | done | fail)), HK.size, by (apply Has.congr; (focus ((repeat (first | (with_reducible assumption) | (with_reducible exact Has.new _ _ _) | (with_reducible exact Has.new1 _ _ _ _) | (with_reducible exact Has.new2 _ _ _ _ _) | (with_reducible refine Has.newAt ?_; (simp; done)) | (with_reducible apply Has.set) | (with_reducible apply Has.far; (case hn => first | assumption | (simp; done) | (intro e_; simp at e_; omega))) | (with_reducible apply Has.alloc) | (with_reducible apply Has.drewN) | (with_reducible apply Has.drew) | (with_reducible refine Has.keeps ?_ (by with_reducible assumption)))))); (first | rfl | (simp; done)))⟩
theorem touchNew_no (M : Mem w m bb N l cc x) (hm : mayB p k d s c b = true) (hN : (N : Int) < lenI p k d s c b) :
    Calls Try.prog 57 #[.pointer (some ⟨m, 0, none⟩), cfgV p k d s c b] w fun e w' => e = .returned (.tuple #[.pointer none, .int .i64 1]) ∧ Keeps w w' := by
  have HM := Lib.hid hm
  obtain ⟨q, hq⟩ : ∃ q, lenI p k d s c b = q := ⟨_, rfl⟩
  have HQ := Lib.hid hq
  rw [hq] at hN
  clear hm hq
  go_enter Try.func57, Try.ntmps57
  go_wp2
  refine wp_named' (fun W1 hW => ?_)
  have HK : Keeps w W1 := by rw [hW]; ((repeat' (first | (with_reducible exact Keeps.refl _) | (with_reducible assumption) | (with_reducible refine Keeps.drewN ?_ _) | (with_reducible refine Keeps.drew ?_) | (with_reducible refine Keeps.alloc ?_ _) | (with_reducible refine Keeps.setCell ?_ ?_ _) | (with_reducible refine Keeps.trans ?_ (After.keeps _)) | (with_reducible refine Keeps.trans ?_ (by with_reducible assumption)) | go_size)); (first | done | fail))
  have HC : Has W1 w.heap.size (cfgA p k d s c b) 84 := by rw [hW]; (apply Has.congr; (focus ((repeat (first | (with_reducible assumption) | (with_reducible exact Has.new _ _ _) | (with_reducible exact Has.new1 _ _ _ _) | (with_reducible exact Has.new2 _ _ _ _ _) | (with_reducible refine Has.newAt ?_; (simp; done)) | (with_reducible apply Has.set) | (with_reducible apply Has.far; (case hn => first | assumption | (simp; done) | (intro e_; simp at e_; omega))) | (with_reducible apply Has.alloc) | (with_reducible apply Has.drewN) | (with_reducible apply Has.drew) | (with_reducible refine Has.keeps ?_ (by with_reducible assumption)))))); (first | rfl | (simp; done)))
  clear hW
  go_region_held3 (fun y => (((y.cell? ⟨w.heap.size, 0, none⟩ = some (.int .i64 p) ∧ y.cell? ⟨w.heap.size, 1, none⟩ = some (.int .i64 k)) ∧ y.cell? ⟨w.heap.size, 2, none⟩ = some (.int .i64 d)) ∧ y.cell? ⟨w.heap.size, 3, none⟩ = some (.int .i64 s)) ∧ y.cell? ⟨w.heap.size, 4, none⟩ = some (.int .i64 c) ∧ y.cell? ⟨w.heap.size, 5, none⟩ = some (.int .i64 b)) (((repeat' (with_reducible apply And.intro)) <;> (apply Has.cellv; (focus ((repeat (first | (with_reducible assumption) | (with_reducible exact Has.new _ _ _) | (with_reducible exact Has.new1 _ _ _ _) | (with_reducible exact Has.new2 _ _ _ _ _) | (with_reducible refine Has.newAt ?_; (simp; done)) | (with_reducible apply Has.set) | (with_reducible apply Has.far; (case hn => first | assumption | (simp; done) | (intro e_; simp at e_; omega))) | (with_reducible apply Has.alloc) | (with_reducible apply Has.drewN) | (with_reducible apply Has.drew) | (with_reducible refine Has.keeps ?_ (by with_reducible assumption)))))); (first | (with_reducible assumption) | rfl | (simp; done) | fail))))
    (first
      | (go_at_call 86; refine (may_c _ _ _ _ _ _ _).mono ?_; rintro e w' ⟨rfl, hk5⟩; rw [HM.out]; have HC := (HC.keeps (by ((repeat' (first | (with_reducible exact Keeps.refl _) | (with_reducible assumption) | (with_reducible refine Keeps.drewN ?_ _) | (with_reducible refine Keeps.drew ?_) | (with_reducible refine Keeps.alloc ?_ _) | (with_reducible refine Keeps.setCell ?_ ?_ _) | (with_reducible refine Keeps.trans ?_ (After.keeps _)) | (with_reducible refine Keeps.trans ?_ (by with_reducible assumption)) | go_size)); (first | done | fail)))).keeps hk5; have HK := (HK.drew).trans hk5)
      | (go_at_call 32; refine (mlen (M.keeps (by ((repeat' (first | (with_reducible exact Keeps.refl _) | (with_reducible assumption) | (with_reducible refine Keeps.drewN ?_ _) | (with_reducible refine Keeps.drew ?_) | (with_reducible refine Keeps.alloc ?_ _) | (with_reducible refine Keeps.setCell ?_ ?_ _) | (with_reducible refine Keeps.trans ?_ (After.keeps _)) | (with_reducible refine Keeps.trans ?_ (by with_reducible assumption)) | go_size)); (first | done | fail))))).mono ?_; rintro e w' ⟨rfl, rfl⟩)
      | (go_at_call 56; refine (len_c _ _ _ _ _ _ _).mono ?_; rintro e w' ⟨rfl, hk6⟩; rw [HQ.out]; have HC := HC.keeps hk6; have HK := HK.trans hk6))
  go_wp2
  go_ret2
  exact ⟨rfl, by ((repeat' (first | (with_reducible exact Keeps.refl _) | (with_reducible assumption) | (with_reducible refine Keeps.drewN ?_ _) | (with_reducible refine Keeps.drew ?_) | (with_reducible refine Keeps.alloc ?_ _) | (with_reducible refine Keeps.setCell ?_ ?_ _) | (with_reducible refine Keeps.trans ?_ (After.keeps _)) | (with_reducible refine Keeps.trans ?_ (by with_reducible assumption)) | go_size)); (first | done | fail))⟩
/-- What comes next of a Touch, by its kind. -/
def touchNx (kind : Int) : Nat := if kind = 6 then 88 else if kind = 7 then 89 else if kind = 8 then 90 else 91
theorem mkTouch_c {Wd : Nat} (kind u i v to_ q : Int) (hW : Has w Wd (wordsOf m p k d s c b) 155) (hk : kind = 6 ∨ kind = 7 ∨ kind = 8 ∨ kind = 9) (hq : wordI p k d s c b u i = q) (q0 : 0 ≤ q) :
    Calls Try.prog 58 #[.pointer (some ⟨Wd, 0, none⟩), .int .i64 kind, .int .i64 u, .int .i64 i, .int .u64 v, .int .u64 to_] w fun e w' => ∃ g, e = .returned (.tuple #[.pointer (some ⟨g, 0, none⟩), .int .i64 0]) ∧ Keeps w w' ∧ w.heap.size ≤ g ∧
      Has w' g (touchOf (bound (touchNx kind) g) 0 m q v to_ 0 0) 157 := by
  have HQ := Lib.hid hq
  clear hq
  have FX_ := (hW).facts; simp only [blockFacts, listFacts, cellsAt, Nat.reduceAdd, and_true, true_and, and_assoc, wordsOf] at FX_
  have HW := hW
  have HK := Keeps.refl w
  rcases hk with rfl | rfl | rfl | rfl
  all_goals
    go_enter Try.func58, Try.ntmps58
    go_wp2
    go_region_held3 (fun y => (((y.cell? ⟨Wd, 0, none⟩ = some (.pointer (some ⟨m, 0, none⟩)) ∧ y.cell? ⟨Wd, 1, none⟩ = some (.int .i64 p)) ∧ y.cell? ⟨Wd, 2, none⟩ = some (.int .i64 k)) ∧ y.cell? ⟨Wd, 3, none⟩ = some (.int .i64 d)) ∧ (y.cell? ⟨Wd, 4, none⟩ = some (.int .i64 s) ∧ y.cell? ⟨Wd, 5, none⟩ = some (.int .i64 c)) ∧ y.cell? ⟨Wd, 6, none⟩ = some (.int .i64 b)) (((repeat' (with_reducible apply And.intro)) <;> (apply Has.cellv; (focus ((repeat (first | (with_reducible assumption) | (with_reducible exact Has.new _ _ _) | (with_reducible exact Has.new1 _ _ _ _) | (with_reducible exact Has.new2 _ _ _ _ _) | (with_reducible refine Has.newAt ?_; (simp; done)) | (with_reducible apply Has.set) | (with_reducible apply Has.far; (case hn => first | assumption | (simp; done) | (intro e_; simp at e_; omega))) | (with_reducible apply Has.alloc) | (with_reducible apply Has.drewN) | (with_reducible apply Has.drew) | (with_reducible refine Has.keeps ?_ (by with_reducible assumption)))))); (first | (with_reducible assumption) | rfl | (simp; done) | fail))))
      ((go_at_call 63; refine (lword_c _ _ _ _ _ _ _ _ _).mono ?_; rintro e w' ⟨rfl, hk5⟩; rw [HQ.out]; have HW := (HW.keeps (by ((repeat' (first | (with_reducible exact Keeps.refl _) | (with_reducible assumption) | (with_reducible refine Keeps.drewN ?_ _) | (with_reducible refine Keeps.drew ?_) | (with_reducible refine Keeps.alloc ?_ _) | (with_reducible refine Keeps.setCell ?_ ?_ _) | (with_reducible refine Keeps.trans ?_ (After.keeps _)) | (with_reducible refine Keeps.trans ?_ (by with_reducible assumption)) | go_size)); (first | done | fail)))).keeps hk5; have HK := (HK.drew).trans hk5))
    go_wp2_with (go_at_call 80; go_in)
    go_ret2
    exact ⟨w'.heap.size, rfl, by ((repeat' (first | (with_reducible exact Keeps.refl _) | (with_reducible assumption) | (with_reducible refine Keeps.drewN ?_ _) | (with_reducible refine Keeps.drew ?_) | (with_reducible refine Keeps.alloc ?_ _) | (with_reducible refine Keeps.setCell ?_ ?_ _) | (with_reducible refine Keeps.trans ?_ (After.keeps _)) | (with_reducible refine Keeps.trans ?_ (by with_reducible assumption)) | go_size)); (first | done | fail)), HK.size, by (apply Has.congr; (focus ((repeat (first | (with_reducible assumption) | (with_reducible exact Has.new _ _ _) | (with_reducible exact Has.new1 _ _ _ _) | (with_reducible exact Has.new2 _ _ _ _ _) | (with_reducible refine Has.newAt ?_; (simp; done)) | (with_reducible apply Has.set) | (with_reducible apply Has.far; (case hn => first | assumption | (simp; done) | (intro e_; simp at e_; omega))) | (with_reducible apply Has.alloc) | (with_reducible apply Has.drewN) | (with_reducible apply Has.drew) | (with_reducible refine Has.keeps ?_ (by with_reducible assumption)))))); (first | rfl | (simp; done)))⟩
end
end Go.Proofs.Ytkpagkopfdblgaa
