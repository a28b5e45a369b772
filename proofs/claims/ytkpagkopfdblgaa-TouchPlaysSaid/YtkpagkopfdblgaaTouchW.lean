/- What package touch does: each access walked once. -/
import Derived.Test.YtkpagkopfdblgaaMem
import Derived.Test.YtkpagkopfdblgaaNum
import Derived.Test.YtkpagkopfdblgaaMach
import Derived.Test.YtkpagkopfdblgaaLayC
import Derived.Deep.RegionHeld3
import Derived.Deep.DrawnRows
namespace Go.Proofs.Ytkpagkopfdblgaa
set_option linter.unusedVariables false
set_option linter.unusedSimpArgs false
open Go Go.RowKit
set_option maxRecDepth 100000
attribute [local go_sem ↓] Go.wp_at_zero Go.wp_at_succ
set_option maxHeartbeats 1000000

/-- A Touch's cells. -/
abbrev touchOf (nx : Value) (c : Int) (m : Nat) (at_ v to_ N V : Int) : Array Value :=
  mach nx c [.pointer (some ⟨m, 0, none⟩), .int .i64 at_, .int .u64 v, .int .u64 to_, .int .i64 0, .int .i64 0, .int .i64 0, .int .i64 0, .int .i64 0, .int .i64 0, .int .i64 N, .int .u64 V]
section
variable {w : World} {m b N : Nat} {i : Nat} {l : List Int} {cc : Int} {x : Acc} {g : Nat} {c v to_ o : Int}
theorem touchLoad_c (hg : Has w g (touchOf .nilFunc c m i v to_ 0 0) 157) (M : Mem w m b N l cc x) (ho : l[i]? = some o) (hcc : cc < 4611686018427387903) :
    Calls Try.prog 88 #[.pointer (some ⟨g, 0, none⟩)] w fun e w' => e = .returned (.tuple #[]) ∧ Upd [g, m, b] w w' ∧
      Has w' g (touchOf .nilFunc c m i v to_ 0 o) 157 ∧ Mem w' m b N l (cc + 1) ⟨1, i, o, o, true⟩ := by
  have ne_ := Has.ne hg M.hg (by decide); have ne_' := Ne.symm ne_
  have ne_ := Has.ne hg M.hb (by decide); have ne_' := Ne.symm ne_
  have HO := Lib.hid ho
  clear ho
  have FX_ := (hg).facts; simp only [blockFacts, listFacts, cellsAt, Nat.reduceAdd, and_true, true_and, and_assoc] at FX_
  have HG := hg
  go_enter Try.func88, Try.ntmps88
  go_wp2
  go_region_held3 (fun y => y.cell? ⟨g, 5, none⟩ = some (.pointer (some ⟨m, 0, none⟩)) ∧ y.cell? ⟨g, 6, none⟩ = some (.int .i64 i)) (((repeat' (with_reducible apply And.intro)) <;> (apply Has.cellv; (focus ((repeat (first | (with_reducible assumption) | (with_reducible exact Has.new _ _ _) | (with_reducible exact Has.new1 _ _ _ _) | (with_reducible exact Has.new2 _ _ _ _ _) | (with_reducible refine Has.newAt ?_; (simp; done)) | (with_reducible apply Has.set) | (with_reducible apply Has.far; (case hn => first | assumption | (simp; done) | (intro e_; simp at e_; omega))) | (with_reducible apply Has.alloc) | (with_reducible apply Has.drewN) | (with_reducible apply Has.drew) | (with_reducible refine Has.keeps ?_ (by with_reducible assumption)))))); (first | (with_reducible assumption) | rfl | (simp; done) | fail))))
    ((go_at_call 35; refine (mload_in (M.keeps (by ((repeat' (first | (with_reducible exact Keeps.refl _) | (with_reducible assumption) | (with_reducible refine Keeps.drewN ?_ _) | (with_reducible refine Keeps.drew ?_) | (with_reducible refine Keeps.alloc ?_ _) | (with_reducible refine Keeps.setCell ?_ ?_ _) | (with_reducible refine Keeps.trans ?_ (After.keeps _)) | (with_reducible refine Keeps.trans ?_ (by with_reducible assumption)) | go_size)); (first | done | fail)))) i HO.out hcc).mono ?_; rintro e w' ⟨rfl, hu2, M2⟩; have HG := (HG.keeps (by ((repeat' (first | (with_reducible exact Keeps.refl _) | (with_reducible assumption) | (with_reducible refine Keeps.drewN ?_ _) | (with_reducible refine Keeps.drew ?_) | (with_reducible refine Keeps.alloc ?_ _) | (with_reducible refine Keeps.setCell ?_ ?_ _) | (with_reducible refine Keeps.trans ?_ (After.keeps _)) | (with_reducible refine Keeps.trans ?_ (by with_reducible assumption)) | go_size)); (first | done | fail)))).upd hu2 (by simp only [List.mem_cons, List.not_mem_nil, or_false, not_or]; (repeat' apply And.intro) <;> assumption); have FX_ := (HG).facts; simp only [blockFacts, listFacts, cellsAt, Nat.reduceAdd, and_true, true_and, and_assoc] at FX_))
  go_end0
  exact ⟨rfl, (Upd.drew (Upd.refl _ _)).trans ((hu2.mono (fun x hx => by simp at hx ⊢; omega)).trans (by (repeat (first | (with_reducible exact Upd.refl _ _) | (with_reducible assumption) | (with_reducible refine Upd.setCell ?_ (by first | (left; simp; done) | (right; go_size)) _) | (with_reducible refine Upd.alloc ?_ _) | (with_reducible refine Upd.drewN ?_ _) | (with_reducible refine Upd.drew ?_))))), by (apply Has.congr; (focus ((repeat (first | (with_reducible assumption) | (with_reducible exact Has.new _ _ _) | (with_reducible exact Has.new1 _ _ _ _) | (with_reducible exact Has.new2 _ _ _ _ _) | (with_reducible refine Has.newAt ?_; (simp; done)) | (with_reducible apply Has.set) | (with_reducible apply Has.far; (case hn => first | assumption | (simp; done) | (intro e_; simp at e_; omega))) | (with_reducible apply Has.alloc) | (with_reducible apply Has.drewN) | (with_reducible apply Has.drew) | (with_reducible refine Has.keeps ?_ (by with_reducible assumption)))))); (first | rfl | (simp; done))), (by repeat' (first | (with_reducible assumption) | (with_reducible apply Mem.alloc) | (with_reducible apply Mem.drewN) | (with_reducible apply Mem.drew) | (with_reducible apply Mem.far; (case h1 => first | assumption | (simp; done) | (intro e_; simp at e_; omega)); (case h2 => first | assumption | (simp; done) | (intro e_; simp at e_; omega)))))⟩
theorem touchStore_c (hg : Has w g (touchOf .nilFunc c m i v to_ 0 0) 157) (M : Mem w m b N l cc x) (ho : l[i]? = some o) (hcc : cc < 4611686018427387903) :
    Calls Try.prog 89 #[.pointer (some ⟨g, 0, none⟩)] w fun e w' => e = .returned (.tuple #[]) ∧ Upd [g, m, b] w w' ∧
      Has w' g (touchOf .nilFunc c m i v to_ 0 0) 157 ∧ Mem w' m b N (l.set i v) (cc + 1) ⟨2, i, o, v, true⟩ := by
  have ne_ := Has.ne hg M.hg (by decide); have ne_' := Ne.symm ne_
  have ne_ := Has.ne hg M.hb (by decide); have ne_' := Ne.symm ne_
  have HO := Lib.hid ho
  clear ho
  have FX_ := (hg).facts; simp only [blockFacts, listFacts, cellsAt, Nat.reduceAdd, and_true, true_and, and_assoc] at FX_
  have HG := hg
  go_enter Try.func89, Try.ntmps89
  go_wp2
  go_region_held3 (fun y => (y.cell? ⟨g, 5, none⟩ = some (.pointer (some ⟨m, 0, none⟩)) ∧ y.cell? ⟨g, 6, none⟩ = some (.int .i64 i)) ∧ y.cell? ⟨g, 7, none⟩ = some (.int .u64 v)) (((repeat' (with_reducible apply And.intro)) <;> (apply Has.cellv; (focus ((repeat (first | (with_reducible assumption) | (with_reducible exact Has.new _ _ _) | (with_reducible exact Has.new1 _ _ _ _) | (with_reducible exact Has.new2 _ _ _ _ _) | (with_reducible refine Has.newAt ?_; (simp; done)) | (with_reducible apply Has.set) | (with_reducible apply Has.far; (case hn => first | assumption | (simp; done) | (intro e_; simp at e_; omega))) | (with_reducible apply Has.alloc) | (with_reducible apply Has.drewN) | (with_reducible apply Has.drew) | (with_reducible refine Has.keeps ?_ (by with_reducible assumption)))))); (first | (with_reducible assumption) | rfl | (simp; done) | fail))))
    ((go_at_call 37; refine (mstore_in (M.keeps (by ((repeat' (first | (with_reducible exact Keeps.refl _) | (with_reducible assumption) | (with_reducible refine Keeps.drewN ?_ _) | (with_reducible refine Keeps.drew ?_) | (with_reducible refine Keeps.alloc ?_ _) | (with_reducible refine Keeps.setCell ?_ ?_ _) | (with_reducible refine Keeps.trans ?_ (After.keeps _)) | (with_reducible refine Keeps.trans ?_ (by with_reducible assumption)) | go_size)); (first | done | fail)))) i _ HO.out hcc).mono ?_; rintro e w' ⟨rfl, hu2, M2⟩; have HG := (HG.keeps (by ((repeat' (first | (with_reducible exact Keeps.refl _) | (with_reducible assumption) | (with_reducible refine Keeps.drewN ?_ _) | (with_reducible refine Keeps.drew ?_) | (with_reducible refine Keeps.alloc ?_ _) | (with_reducible refine Keeps.setCell ?_ ?_ _) | (with_reducible refine Keeps.trans ?_ (After.keeps _)) | (with_reducible refine Keeps.trans ?_ (by with_reducible assumption)) | go_size)); (first | done | fail)))).upd hu2 (by simp only [List.mem_cons, List.not_mem_nil, or_false, not_or]; (repeat' apply And.intro) <;> assumption)))
  go_end0
  exact ⟨rfl, (Upd.drew (Upd.refl _ _)).trans (hu2.mono (fun x hx => by simp at hx ⊢; omega)), HG, M2⟩
theorem touchAdd_c (hg : Has w g (touchOf .nilFunc c m i v to_ 0 0) 157) (M : Mem w m b N l cc x) (ho : l[i]? = some o) (hcc : cc < 4611686018427387903) :
    Calls Try.prog 90 #[.pointer (some ⟨g, 0, none⟩)] w fun e w' => e = .returned (.tuple #[]) ∧ Upd [g, m, b] w w' ∧
      Has w' g (touchOf .nilFunc c m i v to_ 0 o) 157 ∧ Mem w' m b N (l.set i (IntKind.u64.wrap (o + v))) (cc + 1) ⟨4, i, o, IntKind.u64.wrap (o + v), true⟩ := by
  have ne_ := Has.ne hg M.hg (by decide); have ne_' := Ne.symm ne_
  have ne_ := Has.ne hg M.hb (by decide); have ne_' := Ne.symm ne_
  have HO := Lib.hid ho
  clear ho
  have FX_ := (hg).facts; simp only [blockFacts, listFacts, cellsAt, Nat.reduceAdd, and_true, true_and, and_assoc] at FX_
  have HG := hg
  go_enter Try.func90, Try.ntmps90
  go_wp2
  go_region_held3 (fun y => (y.cell? ⟨g, 5, none⟩ = some (.pointer (some ⟨m, 0, none⟩)) ∧ y.cell? ⟨g, 6, none⟩ = some (.int .i64 i)) ∧ y.cell? ⟨g, 7, none⟩ = some (.int .u64 v)) (((repeat' (with_reducible apply And.intro)) <;> (apply Has.cellv; (focus ((repeat (first | (with_reducible assumption) | (with_reducible exact Has.new _ _ _) | (with_reducible exact Has.new1 _ _ _ _) | (with_reducible exact Has.new2 _ _ _ _ _) | (with_reducible refine Has.newAt ?_; (simp; done)) | (with_reducible apply Has.set) | (with_reducible apply Has.far; (case hn => first | assumption | (simp; done) | (intro e_; simp at e_; omega))) | (with_reducible apply Has.alloc) | (with_reducible apply Has.drewN) | (with_reducible apply Has.drew) | (with_reducible refine Has.keeps ?_ (by with_reducible assumption)))))); (first | (with_reducible assumption) | rfl | (simp; done) | fail))))
    ((go_at_call 41; refine (madd_in (M.keeps (by ((repeat' (first | (with_reducible exact Keeps.refl _) | (with_reducible assumption) | (with_reducible refine Keeps.drewN ?_ _) | (with_reducible refine Keeps.drew ?_) | (with_reducible refine Keeps.alloc ?_ _) | (with_reducible refine Keeps.setCell ?_ ?_ _) | (with_reducible refine Keeps.trans ?_ (After.keeps _)) | (with_reducible refine Keeps.trans ?_ (by with_reducible assumption)) | go_size)); (first | done | fail)))) i _ HO.out hcc).mono ?_; rintro e w' ⟨rfl, hu2, M2⟩; have HG := (HG.keeps (by ((repeat' (first | (with_reducible exact Keeps.refl _) | (with_reducible assumption) | (with_reducible refine Keeps.drewN ?_ _) | (with_reducible refine Keeps.drew ?_) | (with_reducible refine Keeps.alloc ?_ _) | (with_reducible refine Keeps.setCell ?_ ?_ _) | (with_reducible refine Keeps.trans ?_ (After.keeps _)) | (with_reducible refine Keeps.trans ?_ (by with_reducible assumption)) | go_size)); (first | done | fail)))).upd hu2 (by simp only [List.mem_cons, List.not_mem_nil, or_false, not_or]; (repeat' apply And.intro) <;> assumption); have FX_ := (HG).facts; simp only [blockFacts, listFacts, cellsAt, Nat.reduceAdd, and_true, true_and, and_assoc] at FX_))
  go_end0
  exact ⟨rfl, (Upd.drew (Upd.refl _ _)).trans ((hu2.mono (fun x hx => by simp at hx ⊢; omega)).trans (by (repeat (first | (with_reducible exact Upd.refl _ _) | (with_reducible assumption) | (with_reducible refine Upd.setCell ?_ (by first | (left; simp; done) | (right; go_size)) _) | (with_reducible refine Upd.alloc ?_ _) | (with_reducible refine Upd.drewN ?_ _) | (with_reducible refine Upd.drew ?_))))), by (apply Has.congr; (focus ((repeat (first | (with_reducible assumption) | (with_reducible exact Has.new _ _ _) | (with_reducible exact Has.new1 _ _ _ _) | (with_reducible exact Has.new2 _ _ _ _ _) | (with_reducible refine Has.newAt ?_; (simp; done)) | (with_reducible apply Has.set) | (with_reducible apply Has.far; (case hn => first | assumption | (simp; done) | (intro e_; simp at e_; omega))) | (with_reducible apply Has.alloc) | (with_reducible apply Has.drewN) | (with_reducible apply Has.drew) | (with_reducible refine Has.keeps ?_ (by with_reducible assumption)))))); (first | rfl | (simp; done))), (by repeat' (first | (with_reducible assumption) | (with_reducible apply Mem.alloc) | (with_reducible apply Mem.drewN) | (with_reducible apply Mem.drew) | (with_reducible apply Mem.far; (case h1 => first | assumption | (simp; done) | (intro e_; simp at e_; omega)); (case h2 => first | assumption | (simp; done) | (intro e_; simp at e_; omega)))))⟩
theorem touchCas_eq (hg : Has w g (touchOf .nilFunc c m i v to_ 0 0) 157) (M : Mem w m b N l cc x) (ho : l[i]? = some v) (hcc : cc < 4611686018427387903) :
    Calls Try.prog 91 #[.pointer (some ⟨g, 0, none⟩)] w fun e w' => e = .returned (.tuple #[]) ∧ Upd [g, m, b] w w' ∧
      Has w' g (touchOf .nilFunc c m i v to_ 1 0) 157 ∧ Mem w' m b N (l.set i to_) (cc + 1) ⟨3, i, v, to_, true⟩ := by
  have ne_ := Has.ne hg M.hg (by decide); have ne_' := Ne.symm ne_
  have ne_ := Has.ne hg M.hb (by decide); have ne_' := Ne.symm ne_
  have HO := Lib.hid ho
  clear ho
  have FX_ := (hg).facts; simp only [blockFacts, listFacts, cellsAt, Nat.reduceAdd, and_true, true_and, and_assoc] at FX_
  have HG := hg
  go_enter Try.func91, Try.ntmps91
  go_wp2
  go_region_held3 (fun y => ((y.cell? ⟨g, 5, none⟩ = some (.pointer (some ⟨m, 0, none⟩)) ∧ y.cell? ⟨g, 6, none⟩ = some (.int .i64 i)) ∧ y.cell? ⟨g, 7, none⟩ = some (.int .u64 v)) ∧ y.cell? ⟨g, 8, none⟩ = some (.int .u64 to_)) (((repeat' (with_reducible apply And.intro)) <;> (apply Has.cellv; (focus ((repeat (first | (with_reducible assumption) | (with_reducible exact Has.new _ _ _) | (with_reducible exact Has.new1 _ _ _ _) | (with_reducible exact Has.new2 _ _ _ _ _) | (with_reducible refine Has.newAt ?_; (simp; done)) | (with_reducible apply Has.set) | (with_reducible apply Has.far; (case hn => first | assumption | (simp; done) | (intro e_; simp at e_; omega))) | (with_reducible apply Has.alloc) | (with_reducible apply Has.drewN) | (with_reducible apply Has.drew) | (with_reducible refine Has.keeps ?_ (by with_reducible assumption)))))); (first | (with_reducible assumption) | rfl | (simp; done) | fail))))
    ((go_at_call 39; refine (mcas_eq (M.keeps (by ((repeat' (first | (with_reducible exact Keeps.refl _) | (with_reducible assumption) | (with_reducible refine Keeps.drewN ?_ _) | (with_reducible refine Keeps.drew ?_) | (with_reducible refine Keeps.alloc ?_ _) | (with_reducible refine Keeps.setCell ?_ ?_ _) | (with_reducible refine Keeps.trans ?_ (After.keeps _)) | (with_reducible refine Keeps.trans ?_ (by with_reducible assumption)) | go_size)); (first | done | fail)))) i _ HO.out hcc).mono ?_; rintro e w' ⟨rfl, hu2, M2⟩; have HG := (HG.keeps (by ((repeat' (first | (with_reducible exact Keeps.refl _) | (with_reducible assumption) | (with_reducible refine Keeps.drewN ?_ _) | (with_reducible refine Keeps.drew ?_) | (with_reducible refine Keeps.alloc ?_ _) | (with_reducible refine Keeps.setCell ?_ ?_ _) | (with_reducible refine Keeps.trans ?_ (After.keeps _)) | (with_reducible refine Keeps.trans ?_ (by with_reducible assumption)) | go_size)); (first | done | fail)))).upd hu2 (by simp only [List.mem_cons, List.not_mem_nil, or_false, not_or]; (repeat' apply And.intro) <;> assumption); have FX_ := (HG).facts; simp only [blockFacts, listFacts, cellsAt, Nat.reduceAdd, and_true, true_and, and_assoc] at FX_))
  go_wp2
  go_end0
  exact ⟨rfl, (Upd.drew (Upd.refl _ _)).trans ((hu2.mono (fun x hx => by simp at hx ⊢; omega)).trans (by (repeat (first | (with_reducible exact Upd.refl _ _) | (with_reducible assumption) | (with_reducible refine Upd.setCell ?_ (by first | (left; simp; done) | (right; go_size)) _) | (with_reducible refine Upd.alloc ?_ _) | (with_reducible refine Upd.drewN ?_ _) | (with_reducible refine Upd.drew ?_))))), by (apply Has.congr; (focus ((repeat (first | (with_reducible assumption) | (with_reducible exact Has.new _ _ _) | (with_reducible exact Has.new1 _ _ _ _) | (with_reducible exact Has.new2 _ _ _ _ _) | (with_reducible refine Has.newAt ?_; (simp; done)) | (with_reducible apply Has.set) | (with_reducible apply Has.far; (case hn => first | assumption | (simp; done) | (intro e_; simp at e_; omega))) | (with_reducible apply Has.alloc) | (with_reducible apply Has.drewN) | (with_reducible apply Has.drew) | (with_reducible refine Has.keeps ?_ (by with_reducible assumption)))))); (first | rfl | (simp; done))), (by repeat' (first | (with_reducible assumption) | (with_reducible apply Mem.alloc) | (with_reducible apply Mem.drewN) | (with_reducible apply Mem.drew) | (with_reducible apply Mem.far; (case h1 => first | assumption | (simp; done) | (intro e_; simp at e_; omega)); (case h2 => first | assumption | (simp; done) | (intro e_; simp at e_; omega)))))⟩
theorem touchCas_ne (hg : Has w g (touchOf .nilFunc c m i v to_ 0 0) 157) (M : Mem w m b N l cc x) (ho : l[i]? = some o) (hov : ¬ o = v) (hcc : cc < 4611686018427387903) :
    Calls Try.prog 91 #[.pointer (some ⟨g, 0, none⟩)] w fun e w' => e = .returned (.tuple #[]) ∧ Upd [g, m, b] w w' ∧
      Has w' g (touchOf .nilFunc c m i v to_ 0 0) 157 ∧ Mem w' m b N l (cc + 1) ⟨3, i, o, o, false⟩ := by
  have ne_ := Has.ne hg M.hg (by decide); have ne_' := Ne.symm ne_
  have ne_ := Has.ne hg M.hb (by decide); have ne_' := Ne.symm ne_
  have HO := Lib.hid ho
  have HN : Hid ((o != v) = true) := Lib.hid (by simp [hov])
  clear ho hov
  have FX_ := (hg).facts; simp only [blockFacts, listFacts, cellsAt, Nat.reduceAdd, and_true, true_and, and_assoc] at FX_
  have HG := hg
  go_enter Try.func91, Try.ntmps91
  go_wp2
  go_region_held3 (fun y => ((y.cell? ⟨g, 5, none⟩ = some (.pointer (some ⟨m, 0, none⟩)) ∧ y.cell? ⟨g, 6, none⟩ = some (.int .i64 i)) ∧ y.cell? ⟨g, 7, none⟩ = some (.int .u64 v)) ∧ y.cell? ⟨g, 8, none⟩ = some (.int .u64 to_)) (((repeat' (with_reducible apply And.intro)) <;> (apply Has.cellv; (focus ((repeat (first | (with_reducible assumption) | (with_reducible exact Has.new _ _ _) | (with_reducible exact Has.new1 _ _ _ _) | (with_reducible exact Has.new2 _ _ _ _ _) | (with_reducible refine Has.newAt ?_; (simp; done)) | (with_reducible apply Has.set) | (with_reducible apply Has.far; (case hn => first | assumption | (simp; done) | (intro e_; simp at e_; omega))) | (with_reducible apply Has.alloc) | (with_reducible apply Has.drewN) | (with_reducible apply Has.drew) | (with_reducible refine Has.keeps ?_ (by with_reducible assumption)))))); (first | (with_reducible assumption) | rfl | (simp; done) | fail))))
    ((go_at_call 39; refine (mcas_ne (M.keeps (by ((repeat' (first | (with_reducible exact Keeps.refl _) | (with_reducible assumption) | (with_reducible refine Keeps.drewN ?_ _) | (with_reducible refine Keeps.drew ?_) | (with_reducible refine Keeps.alloc ?_ _) | (with_reducible refine Keeps.setCell ?_ ?_ _) | (with_reducible refine Keeps.trans ?_ (After.keeps _)) | (with_reducible refine Keeps.trans ?_ (by with_reducible assumption)) | go_size)); (first | done | fail)))) i _ _ HO.out hcc HN.out).mono ?_; rintro e w' ⟨rfl, hu2, M2⟩; have HG := (HG.keeps (by ((repeat' (first | (with_reducible exact Keeps.refl _) | (with_reducible assumption) | (with_reducible refine Keeps.drewN ?_ _) | (with_reducible refine Keeps.drew ?_) | (with_reducible refine Keeps.alloc ?_ _) | (with_reducible refine Keeps.setCell ?_ ?_ _) | (with_reducible refine Keeps.trans ?_ (After.keeps _)) | (with_reducible refine Keeps.trans ?_ (by with_reducible assumption)) | go_size)); (first | done | fail)))).upd hu2 (by simp only [List.mem_cons, List.not_mem_nil, or_false, not_or]; (repeat' apply And.intro) <;> assumption); have FX_ := (HG).facts; simp only [blockFacts, listFacts, cellsAt, Nat.reduceAdd, and_true, true_and, and_assoc] at FX_))
  go_wp2
  go_end0
  exact ⟨rfl, (Upd.drew (Upd.refl _ _)).trans (hu2.mono (fun x hx => by simp at hx ⊢; omega)), HG, M2⟩
theorem entr_tLoad : Entr 88 := fun args w => by kernel_rfl
theorem entr_tStore : Entr 89 := fun args w => by kernel_rfl
theorem entr_tAdd : Entr 90 := fun args w => by kernel_rfl
theorem entr_tCas : Entr 91 := fun args w => by kernel_rfl
theorem tStep_of {o : Bool} {Q : World → Prop} (h : Calls Try.prog 82 #[.pointer (some ⟨g, 0, none⟩)] w fun e w' => e = .returned (.bool o) ∧ Q w') :
    Calls Try.prog 61 #[.pointer (some ⟨g, 0, none⟩)] w fun e w' => e = .returned (.bool o) ∧ Q w' := by
  have H := Lib.hid h
  clear h
  go_enter Try.func61, Try.ntmps61
  go_wp2_with (go_at_call 82; refine (H.out).mono ?_; rintro e w' ⟨rfl, hq⟩)
  go_ret
  exact ⟨rfl, hq⟩
theorem tDone_of {o : Bool} {Q : World → Prop} (h : Calls Try.prog 83 #[.pointer (some ⟨g, 0, none⟩)] w fun e w' => e = .returned (.bool o) ∧ Q w') :
    Calls Try.prog 60 #[.pointer (some ⟨g, 0, none⟩)] w fun e w' => e = .returned (.bool o) ∧ Q w' := by
  have H := Lib.hid h
  clear h
  go_enter Try.func60, Try.ntmps60
  go_wp2_with (go_at_call 83; refine (H.out).mono ?_; rintro e w' ⟨rfl, hq⟩)
  go_ret
  exact ⟨rfl, hq⟩
theorem res_c {nx : Value} {at_ N V : Int} (hg : Has w g (touchOf nx c m at_ v to_ N V) 157) :
    Calls Try.prog 62 #[.pointer (some ⟨g, 0, none⟩)] w fun e w' => e = .returned (.agg #[.int .i64 0, .int .i64 0, .int .i64 0, .int .i64 0, .int .i64 0, .int .i64 0, .int .i64 N, .int .u64 V]) ∧ Keeps w w' := by
  have FX_ := (hg).facts; simp only [blockFacts, listFacts, cellsAt, Nat.reduceAdd, and_true, true_and, and_assoc] at FX_
  go_enter Try.func62, Try.ntmps62
  go_wp2
  trace_state
  go_returns
  exact ⟨rfl, by ((repeat' (first | (with_reducible exact Keeps.refl _) | (with_reducible assumption) | (with_reducible refine Keeps.drewN ?_ _) | (with_reducible refine Keeps.drew ?_) | (with_reducible refine Keeps.alloc ?_ _) | (with_reducible refine Keeps.setCell ?_ ?_ _) | (with_reducible refine Keeps.trans ?_ (After.keeps _)) | (with_reducible refine Keeps.trans ?_ (by with_reducible assumption)) | go_size)); (first | done | fail))⟩
end
end Go.Proofs.Ytkpagkopfdblgaa
