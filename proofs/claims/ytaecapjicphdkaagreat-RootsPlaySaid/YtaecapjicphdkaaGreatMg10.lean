/- The machines Push and Pop, walked. -/
import Derived.Test.YtaecapjicphdkaaGreatMg06
namespace Go.Proofs.YtaecapjicphdkaaGreat
set_option linter.unusedVariables false
set_option linter.unusedSimpArgs false
open Go Go.RowKit
set_option maxRecDepth 100000
attribute [local go_sem ↓] Go.wp_at_zero Go.wp_at_succ
set_option maxHeartbeats 1000000

/-- A Push's cells. -/
abbrev pushOf (nx : Value) (c : Int) (S : Nat) (v : Value) (i was : Int) : Array Value := mach nx c [.pointer (some ⟨S, 0, none⟩), v, .int .i64 i, .int .u64 was]
section
variable {w : World} {S m b N : Nat} {hd : Nat} {lk n : Int} {l : List Int} {cc : Int} {x : Acc} {g lb k cap i q : Nat} {cur : Array Value} {c was a1 a2 o : Int}
theorem pushLink_on (hP : Has w g (pushOf .nilFunc c S (.slice (some ⟨lb, 0, none⟩) k cap) i was) 152) (hS : Has w S (stackOf m hd lk n) 143) (M : Mem w m b N l cc x)
    (hL : Has w lb cur 3) (hc1 : cur[i]? = some (.int .i64 a1)) (hc2 : cur[i + 1]? = some (.int .i64 a2)) (hk : i + 2 < k) (hk1 : k ≤ 1000000) (hq : lk + a1 = q) (hq1 : q ≤ 9000000) (ho : l[q]? = some o) (h20 : 0 ≤ a2) (h21 : a2 ≤ 9000000) (hcc : cc < 4611686018427387903) :
    Calls Tryz.prog 84 #[.pointer (some ⟨g, 0, none⟩)] w fun e w' => e = .returned (.tuple #[]) ∧ Upd [g, m, b] w w' ∧
      Has w' g (pushOf (bound 84 g) c S (.slice (some ⟨lb, 0, none⟩) k cap) ((i : Int) + 1) was) 152 ∧ Mem w' m b N (l.set q (a2 + 1)) (cc + 1) ⟨2, q, o, a2 + 1, true⟩ := by
  have ne_ := Has.ne hP hS (by decide); have ne_' := Ne.symm ne_
  have ne_ := Has.ne hP M.hg (by decide); have ne_' := Ne.symm ne_
  have ne_ := Has.ne hP M.hb (by decide); have ne_' := Ne.symm ne_
  have ne_ := Has.ne hP hL (by decide); have ne_' := Ne.symm ne_
  have ne_ := Has.ne hS M.hg (by decide); have ne_' := Ne.symm ne_
  have ne_ := Has.ne hS M.hb (by decide); have ne_' := Ne.symm ne_
  have ne_ := Has.ne hL M.hg (by decide); have ne_' := Ne.symm ne_
  have ne_ := Has.ne hL M.hb (by decide); have ne_' := Ne.symm ne_
  have ne_ := Has.ne hL hS (by decide); have ne_' := Ne.symm ne_
  have HO := Lib.hid ho
  have HQ := Lib.hid hq
  have p0 : 0 ≤ lk + a1 := by omega
  have p1 : lk + a1 ≤ 9000000 := by omega
  have pw := wrapI_ok (lk + a1) (by omega) (by omega)
  have pw1 := wrapI_ok ((i : Int) + 1) (by omega) (by omega)
  have pw2 := wrapI_ok (a2 + 1) (by omega) (by omega)
  have pw3 := wrapW_ok (a2 + 1) (by omega) (by omega)
  have pi0 : (0 : Int) ≤ (i : Int) := by omega
  have pi1 : (i : Int) < (k : Int) := by omega
  have pi2 : (0 : Int) ≤ (i : Int) + 1 := by omega
  have pi3 : (i : Int) + 1 < (k : Int) := by omega
  have pw4 := wrapI_ok ((k : Int) - 1) (by omega) (by omega)
  have pi4 : (i : Int) + 1 < (k : Int) - 1 := by omega
  clear ho hq
  have FX_ := (hP).facts; simp only [blockFacts, listFacts, cellsAt, Nat.reduceAdd, and_true, true_and, and_assoc] at FX_
  have FX_ := (hS).facts; simp only [blockFacts, listFacts, cellsAt, Nat.reduceAdd, and_true, true_and, and_assoc, stackOf] at FX_
  have HP := hP
  have HS := hS
  have HL := hL
  go_enter Tryz.func84, Tryz.ntmps84
  go_wp2
  go_region_held3 (fun y => ((((y.cell? ⟨g, 5, none⟩ = some (.pointer (some ⟨S, 0, none⟩)) ∧ y.cell? ⟨S, 0, none⟩ = some (.pointer (some ⟨m, 0, none⟩))) ∧ y.cell? ⟨S, 2, none⟩ = some (.int .i64 lk)) ∧ y.cell? ⟨g, 6, none⟩ = some (.slice (some ⟨lb, 0, none⟩) k cap) ∧ y.cell? ⟨g, 7, none⟩ = some (.int .i64 i)) ∧ y.cell? ⟨lb, i, none⟩ = some (.int .i64 a1)) ∧ y.cell? ⟨lb, i + 1, none⟩ = some (.int .i64 a2)) (((repeat' (with_reducible apply And.intro)) <;> (apply Has.cellv; (focus ((repeat (first | (with_reducible assumption) | (with_reducible exact Has.new _ _ _) | (with_reducible exact Has.new1 _ _ _ _) | (with_reducible exact Has.new2 _ _ _ _ _) | (with_reducible refine Has.newAt ?_; (simp; done)) | (with_reducible apply Has.set) | (with_reducible apply Has.far; (case hn => first | assumption | (simp; done) | (intro e_; simp at e_; omega))) | (with_reducible apply Has.alloc) | (with_reducible apply Has.drewN) | (with_reducible apply Has.drew) | (with_reducible refine Has.keeps ?_ (by with_reducible assumption)))))); (first | (with_reducible assumption) | rfl | (simp; done) | fail))))
    ((go_at_call 124; refine (mstore_at (M.keeps (by ((repeat' (first | (with_reducible exact Keeps.refl _) | (with_reducible assumption) | (with_reducible refine Keeps.drewN ?_ _) | (with_reducible refine Keeps.drew ?_) | (with_reducible refine Keeps.alloc ?_ _) | (with_reducible refine Keeps.setCell ?_ ?_ _) | (with_reducible refine Keeps.trans ?_ (After.keeps _)) | (with_reducible refine Keeps.trans ?_ (by with_reducible assumption)) | go_size)); (first | done | fail)))) q _ _ HQ.out HO.out hcc).mono ?_; rintro e w' ⟨rfl, hu2, M2⟩; have HP := (HP.keeps (by ((repeat' (first | (with_reducible exact Keeps.refl _) | (with_reducible assumption) | (with_reducible refine Keeps.drewN ?_ _) | (with_reducible refine Keeps.drew ?_) | (with_reducible refine Keeps.alloc ?_ _) | (with_reducible refine Keeps.setCell ?_ ?_ _) | (with_reducible refine Keeps.trans ?_ (After.keeps _)) | (with_reducible refine Keeps.trans ?_ (by with_reducible assumption)) | go_size)); (first | done | fail)))).upd hu2 (by simp only [List.mem_cons, List.not_mem_nil, or_false, not_or]; (repeat' apply And.intro) <;> assumption); have HS := (HS.keeps (by ((repeat' (first | (with_reducible exact Keeps.refl _) | (with_reducible assumption) | (with_reducible refine Keeps.drewN ?_ _) | (with_reducible refine Keeps.drew ?_) | (with_reducible refine Keeps.alloc ?_ _) | (with_reducible refine Keeps.setCell ?_ ?_ _) | (with_reducible refine Keeps.trans ?_ (After.keeps _)) | (with_reducible refine Keeps.trans ?_ (by with_reducible assumption)) | go_size)); (first | done | fail)))).upd hu2 (by simp only [List.mem_cons, List.not_mem_nil, or_false, not_or]; (repeat' apply And.intro) <;> assumption); have HL := (HL.keeps (by ((repeat' (first | (with_reducible exact Keeps.refl _) | (with_reducible assumption) | (with_reducible refine Keeps.drewN ?_ _) | (with_reducible refine Keeps.drew ?_) | (with_reducible refine Keeps.alloc ?_ _) | (with_reducible refine Keeps.setCell ?_ ?_ _) | (with_reducible refine Keeps.trans ?_ (After.keeps _)) | (with_reducible refine Keeps.trans ?_ (by with_reducible assumption)) | go_size)); (first | done | fail)))).upd hu2 (by simp only [List.mem_cons, List.not_mem_nil, or_false, not_or]; (repeat' apply And.intro) <;> assumption); have FX_ := (HP).facts; simp only [blockFacts, listFacts, cellsAt, Nat.reduceAdd, and_true, true_and, and_assoc] at FX_; have FX_ := (HS).facts; simp only [blockFacts, listFacts, cellsAt, Nat.reduceAdd, and_true, true_and, and_assoc, stackOf] at FX_))
  go_wp2
  refine wp_named' (fun W hW => ?_)
  have hu3 : Upd [g] w' W := by rw [hW]; (repeat (first | (with_reducible exact Upd.refl _ _) | (with_reducible assumption) | (with_reducible refine Upd.setCell ?_ (by first | (left; simp; done) | (right; go_size)) _) | (with_reducible refine Upd.alloc ?_ _) | (with_reducible refine Upd.drewN ?_ _) | (with_reducible refine Upd.drew ?_)))
  have HP3 : Has W g (pushOf .nilFunc c S (.slice (some ⟨lb, 0, none⟩) k cap) ((i : Int) + 1) was) 152 := by rw [hW]; (apply Has.congr; (focus ((repeat (first | (with_reducible assumption) | (with_reducible exact Has.new _ _ _) | (with_reducible exact Has.new1 _ _ _ _) | (with_reducible exact Has.new2 _ _ _ _ _) | (with_reducible refine Has.newAt ?_; (simp; done)) | (with_reducible apply Has.set) | (with_reducible apply Has.far; (case hn => first | assumption | (simp; done) | (intro e_; simp at e_; omega))) | (with_reducible apply Has.alloc) | (with_reducible apply Has.drewN) | (with_reducible apply Has.drew) | (with_reducible refine Has.keeps ?_ (by with_reducible assumption)))))); (first | rfl | (simp; done)))
  have M3 := M2.upd hu3 (by simp only [List.mem_cons, List.not_mem_nil, or_false, not_or]; (repeat' apply And.intro) <;> assumption) (by simp only [List.mem_cons, List.not_mem_nil, or_false, not_or]; (repeat' apply And.intro) <;> assumption)
  clear hW
  go_region_held3 (fun y => y.cell? ⟨g, 6, none⟩ = some (.slice (some ⟨lb, 0, none⟩) k cap) ∧ y.cell? ⟨g, 7, none⟩ = some (.int .i64 ((i : Int) + 1))) (((repeat' (with_reducible apply And.intro)) <;> (apply Has.cellv; (focus ((repeat (first | (with_reducible assumption) | (with_reducible exact Has.new _ _ _) | (with_reducible exact Has.new1 _ _ _ _) | (with_reducible exact Has.new2 _ _ _ _ _) | (with_reducible refine Has.newAt ?_; (simp; done)) | (with_reducible apply Has.set) | (with_reducible apply Has.far; (case hn => first | assumption | (simp; done) | (intro e_; simp at e_; omega))) | (with_reducible apply Has.alloc) | (with_reducible apply Has.drewN) | (with_reducible apply Has.drew) | (with_reducible refine Has.keeps ?_ (by with_reducible assumption)))))); (first | (with_reducible assumption) | rfl | (simp; done) | fail)))) (fail)
  have FX_ := (HP3).facts; simp only [blockFacts, listFacts, cellsAt, Nat.reduceAdd, and_true, true_and, and_assoc] at FX_
  go_wp2_with (go_at_call 41; go_in)
  go_end0
  exact ⟨rfl, (Upd.drew (Upd.refl _ _)).trans ((hu2.mono (fun x hx => by simp at hx ⊢; omega)).trans ((hu3.mono (fun x hx => by simp at hx ⊢; omega)).trans (by (repeat (first | (with_reducible exact Upd.refl _ _) | (with_reducible assumption) | (with_reducible refine Upd.setCell ?_ (by first | (left; simp; done) | (right; go_size)) _) | (with_reducible refine Upd.alloc ?_ _) | (with_reducible refine Upd.drewN ?_ _) | (with_reducible refine Upd.drew ?_)))))), by (apply Has.congr; (focus ((repeat (first | (with_reducible assumption) | (with_reducible exact Has.new _ _ _) | (with_reducible exact Has.new1 _ _ _ _) | (with_reducible exact Has.new2 _ _ _ _ _) | (with_reducible refine Has.newAt ?_; (simp; done)) | (with_reducible apply Has.set) | (with_reducible apply Has.far; (case hn => first | assumption | (simp; done) | (intro e_; simp at e_; omega))) | (with_reducible apply Has.alloc) | (with_reducible apply Has.drewN) | (with_reducible apply Has.drew) | (with_reducible refine Has.keeps ?_ (by with_reducible assumption)))))); (first | rfl | (simp; done))), (by repeat' (first | (with_reducible assumption) | (with_reducible apply Mem.alloc) | (with_reducible apply Mem.drewN) | (with_reducible apply Mem.drew) | (with_reducible apply Mem.far; (case h1 => first | assumption | (simp; done) | (intro e_; simp at e_; omega)); (case h2 => first | assumption | (simp; done) | (intro e_; simp at e_; omega)))))⟩
theorem pushLink_end (hP : Has w g (pushOf .nilFunc c S (.slice (some ⟨lb, 0, none⟩) k cap) i was) 152) (hS : Has w S (stackOf m hd lk n) 143) (M : Mem w m b N l cc x)
    (hL : Has w lb cur 3) (hc1 : cur[i]? = some (.int .i64 a1)) (hc2 : cur[i + 1]? = some (.int .i64 a2)) (hk : i + 2 = k) (hk1 : k ≤ 1000000) (hq : lk + a1 = q) (hq1 : q ≤ 9000000) (ho : l[q]? = some o) (h20 : 0 ≤ a2) (h21 : a2 ≤ 9000000) (hcc : cc < 4611686018427387903) :
    Calls Tryz.prog 84 #[.pointer (some ⟨g, 0, none⟩)] w fun e w' => e = .returned (.tuple #[]) ∧ Upd [g, m, b] w w' ∧
      Has w' g (pushOf (bound 83 g) c S (.slice (some ⟨lb, 0, none⟩) k cap) ((i : Int) + 1) was) 152 ∧ Mem w' m b N (l.set q (a2 + 1)) (cc + 1) ⟨2, q, o, a2 + 1, true⟩ := by
  have ne_ := Has.ne hP hS (by decide); have ne_' := Ne.symm ne_
  have ne_ := Has.ne hP M.hg (by decide); have ne_' := Ne.symm ne_
  have ne_ := Has.ne hP M.hb (by decide); have ne_' := Ne.symm ne_
  have ne_ := Has.ne hP hL (by decide); have ne_' := Ne.symm ne_
  have ne_ := Has.ne hS M.hg (by decide); have ne_' := Ne.symm ne_
  have ne_ := Has.ne hS M.hb (by decide); have ne_' := Ne.symm ne_
  have ne_ := Has.ne hL M.hg (by decide); have ne_' := Ne.symm ne_
  have ne_ := Has.ne hL M.hb (by decide); have ne_' := Ne.symm ne_
  have ne_ := Has.ne hL hS (by decide); have ne_' := Ne.symm ne_
  have HO := Lib.hid ho
  have HQ := Lib.hid hq
  have p0 : 0 ≤ lk + a1 := by omega
  have p1 : lk + a1 ≤ 9000000 := by omega
  have pw := wrapI_ok (lk + a1) (by omega) (by omega)
  have pw1 := wrapI_ok ((i : Int) + 1) (by omega) (by omega)
  have pw2 := wrapI_ok (a2 + 1) (by omega) (by omega)
  have pw3 := wrapW_ok (a2 + 1) (by omega) (by omega)
  have pi0 : (0 : Int) ≤ (i : Int) := by omega
  have pi1 : (i : Int) < (k : Int) := by omega
  have pi2 : (0 : Int) ≤ (i : Int) + 1 := by omega
  have pi3 : (i : Int) + 1 < (k : Int) := by omega
  have pw4 := wrapI_ok ((k : Int) - 1) (by omega) (by omega)
  have pi4 : ¬ (i : Int) + 1 < (k : Int) - 1 := by omega
  clear ho hq
  have FX_ := (hP).facts; simp only [blockFacts, listFacts, cellsAt, Nat.reduceAdd, and_true, true_and, and_assoc] at FX_
  have FX_ := (hS).facts; simp only [blockFacts, listFacts, cellsAt, Nat.reduceAdd, and_true, true_and, and_assoc, stackOf] at FX_
  have HP := hP
  have HS := hS
  have HL := hL
  go_enter Tryz.func84, Tryz.ntmps84
  go_wp2
  go_region_held3 (fun y => ((((y.cell? ⟨g, 5, none⟩ = some (.pointer (some ⟨S, 0, none⟩)) ∧ y.cell? ⟨S, 0, none⟩ = some (.pointer (some ⟨m, 0, none⟩))) ∧ y.cell? ⟨S, 2, none⟩ = some (.int .i64 lk)) ∧ y.cell? ⟨g, 6, none⟩ = some (.slice (some ⟨lb, 0, none⟩) k cap) ∧ y.cell? ⟨g, 7, none⟩ = some (.int .i64 i)) ∧ y.cell? ⟨lb, i, none⟩ = some (.int .i64 a1)) ∧ y.cell? ⟨lb, i + 1, none⟩ = some (.int .i64 a2)) (((repeat' (with_reducible apply And.intro)) <;> (apply Has.cellv; (focus ((repeat (first | (with_reducible assumption) | (with_reducible exact Has.new _ _ _) | (with_reducible exact Has.new1 _ _ _ _) | (with_reducible exact Has.new2 _ _ _ _ _) | (with_reducible refine Has.newAt ?_; (simp; done)) | (with_reducible apply Has.set) | (with_reducible apply Has.far; (case hn => first | assumption | (simp; done) | (intro e_; simp at e_; omega))) | (with_reducible apply Has.alloc) | (with_reducible apply Has.drewN) | (with_reducible apply Has.drew) | (with_reducible refine Has.keeps ?_ (by with_reducible assumption)))))); (first | (with_reducible assumption) | rfl | (simp; done) | fail))))
    ((go_at_call 124; refine (mstore_at (M.keeps (by ((repeat' (first | (with_reducible exact Keeps.refl _) | (with_reducible assumption) | (with_reducible refine Keeps.drewN ?_ _) | (with_reducible refine Keeps.drew ?_) | (with_reducible refine Keeps.alloc ?_ _) | (with_reducible refine Keeps.setCell ?_ ?_ _) | (with_reducible refine Keeps.trans ?_ (After.keeps _)) | (with_reducible refine Keeps.trans ?_ (by with_reducible assumption)) | go_size)); (first | done | fail)))) q _ _ HQ.out HO.out hcc).mono ?_; rintro e w' ⟨rfl, hu2, M2⟩; have HP := (HP.keeps (by ((repeat' (first | (with_reducible exact Keeps.refl _) | (with_reducible assumption) | (with_reducible refine Keeps.drewN ?_ _) | (with_reducible refine Keeps.drew ?_) | (with_reducible refine Keeps.alloc ?_ _) | (with_reducible refine Keeps.setCell ?_ ?_ _) | (with_reducible refine Keeps.trans ?_ (After.keeps _)) | (with_reducible refine Keeps.trans ?_ (by with_reducible assumption)) | go_size)); (first | done | fail)))).upd hu2 (by simp only [List.mem_cons, List.not_mem_nil, or_false, not_or]; (repeat' apply And.intro) <;> assumption); have HS := (HS.keeps (by ((repeat' (first | (with_reducible exact Keeps.refl _) | (with_reducible assumption) | (with_reducible refine Keeps.drewN ?_ _) | (with_reducible refine Keeps.drew ?_) | (with_reducible refine Keeps.alloc ?_ _) | (with_reducible refine Keeps.setCell ?_ ?_ _) | (with_reducible refine Keeps.trans ?_ (After.keeps _)) | (with_reducible refine Keeps.trans ?_ (by with_reducible assumption)) | go_size)); (first | done | fail)))).upd hu2 (by simp only [List.mem_cons, List.not_mem_nil, or_false, not_or]; (repeat' apply And.intro) <;> assumption); have HL := (HL.keeps (by ((repeat' (first | (with_reducible exact Keeps.refl _) | (with_reducible assumption) | (with_reducible refine Keeps.drewN ?_ _) | (with_reducible refine Keeps.drew ?_) | (with_reducible refine Keeps.alloc ?_ _) | (with_reducible refine Keeps.setCell ?_ ?_ _) | (with_reducible refine Keeps.trans ?_ (After.keeps _)) | (with_reducible refine Keeps.trans ?_ (by with_reducible assumption)) | go_size)); (first | done | fail)))).upd hu2 (by simp only [List.mem_cons, List.not_mem_nil, or_false, not_or]; (repeat' apply And.intro) <;> assumption); have FX_ := (HP).facts; simp only [blockFacts, listFacts, cellsAt, Nat.reduceAdd, and_true, true_and, and_assoc] at FX_; have FX_ := (HS).facts; simp only [blockFacts, listFacts, cellsAt, Nat.reduceAdd, and_true, true_and, and_assoc, stackOf] at FX_))
  go_wp2
  refine wp_named' (fun W hW => ?_)
  have hu3 : Upd [g] w' W := by rw [hW]; (repeat (first | (with_reducible exact Upd.refl _ _) | (with_reducible assumption) | (with_reducible refine Upd.setCell ?_ (by first | (left; simp; done) | (right; go_size)) _) | (with_reducible refine Upd.alloc ?_ _) | (with_reducible refine Upd.drewN ?_ _) | (with_reducible refine Upd.drew ?_)))
  have HP3 : Has W g (pushOf .nilFunc c S (.slice (some ⟨lb, 0, none⟩) k cap) ((i : Int) + 1) was) 152 := by rw [hW]; (apply Has.congr; (focus ((repeat (first | (with_reducible assumption) | (with_reducible exact Has.new _ _ _) | (with_reducible exact Has.new1 _ _ _ _) | (with_reducible exact Has.new2 _ _ _ _ _) | (with_reducible refine Has.newAt ?_; (simp; done)) | (with_reducible apply Has.set) | (with_reducible apply Has.far; (case hn => first | assumption | (simp; done) | (intro e_; simp at e_; omega))) | (with_reducible apply Has.alloc) | (with_reducible apply Has.drewN) | (with_reducible apply Has.drew) | (with_reducible refine Has.keeps ?_ (by with_reducible assumption)))))); (first | rfl | (simp; done)))
  have M3 := M2.upd hu3 (by simp only [List.mem_cons, List.not_mem_nil, or_false, not_or]; (repeat' apply And.intro) <;> assumption) (by simp only [List.mem_cons, List.not_mem_nil, or_false, not_or]; (repeat' apply And.intro) <;> assumption)
  clear hW
  go_region_held3 (fun y => y.cell? ⟨g, 6, none⟩ = some (.slice (some ⟨lb, 0, none⟩) k cap) ∧ y.cell? ⟨g, 7, none⟩ = some (.int .i64 ((i : Int) + 1))) (((repeat' (with_reducible apply And.intro)) <;> (apply Has.cellv; (focus ((repeat (first | (with_reducible assumption) | (with_reducible exact Has.new _ _ _) | (with_reducible exact Has.new1 _ _ _ _) | (with_reducible exact Has.new2 _ _ _ _ _) | (with_reducible refine Has.newAt ?_; (simp; done)) | (with_reducible apply Has.set) | (with_reducible apply Has.far; (case hn => first | assumption | (simp; done) | (intro e_; simp at e_; omega))) | (with_reducible apply Has.alloc) | (with_reducible apply Has.drewN) | (with_reducible apply Has.drew) | (with_reducible refine Has.keeps ?_ (by with_reducible assumption)))))); (first | (with_reducible assumption) | rfl | (simp; done) | fail)))) (fail)
  have FX_ := (HP3).facts; simp only [blockFacts, listFacts, cellsAt, Nat.reduceAdd, and_true, true_and, and_assoc] at FX_
  go_wp2_with (go_at_call 41; go_in)
  go_end0
  exact ⟨rfl, (Upd.drew (Upd.refl _ _)).trans ((hu2.mono (fun x hx => by simp at hx ⊢; omega)).trans ((hu3.mono (fun x hx => by simp at hx ⊢; omega)).trans (by (repeat (first | (with_reducible exact Upd.refl _ _) | (with_reducible assumption) | (with_reducible refine Upd.setCell ?_ (by first | (left; simp; done) | (right; go_size)) _) | (with_reducible refine Upd.alloc ?_ _) | (with_reducible refine Upd.drewN ?_ _) | (with_reducible refine Upd.drew ?_)))))), by (apply Has.congr; (focus ((repeat (first | (with_reducible assumption) | (with_reducible exact Has.new _ _ _) | (with_reducible exact Has.new1 _ _ _ _) | (with_reducible exact Has.new2 _ _ _ _ _) | (with_reducible refine Has.newAt ?_; (simp; done)) | (with_reducible apply Has.set) | (with_reducible apply Has.far; (case hn => first | assumption | (simp; done) | (intro e_; simp at e_; omega))) | (with_reducible apply Has.alloc) | (with_reducible apply Has.drewN) | (with_reducible apply Has.drew) | (with_reducible refine Has.keeps ?_ (by with_reducible assumption)))))); (first | rfl | (simp; done))), (by repeat' (first | (with_reducible assumption) | (with_reducible apply Mem.alloc) | (with_reducible apply Mem.drewN) | (with_reducible apply Mem.drew) | (with_reducible apply Mem.far; (case h1 => first | assumption | (simp; done) | (intro e_; simp at e_; omega)); (case h2 => first | assumption | (simp; done) | (intro e_; simp at e_; omega)))))⟩
theorem pushLoad_c {v : Value} (hP : Has w g (pushOf .nilFunc c S v i was) 152) (hS : Has w S (stackOf m hd lk n) 143) (M : Mem w m b N l cc x)
    (ho : l[hd]? = some o) (hcc : cc < 4611686018427387903) :
    Calls Tryz.prog 83 #[.pointer (some ⟨g, 0, none⟩)] w fun e w' => e = .returned (.tuple #[]) ∧ Upd [g, m, b] w w' ∧
      Has w' g (pushOf (bound 123 g) c S v i o) 152 ∧ Mem w' m b N l (cc + 1) ⟨1, hd, o, o, true⟩ := by
  have ne_ := Has.ne hP hS (by decide); have ne_' := Ne.symm ne_
  have ne_ := Has.ne hP M.hg (by decide); have ne_' := Ne.symm ne_
  have ne_ := Has.ne hP M.hb (by decide); have ne_' := Ne.symm ne_
  have ne_ := Has.ne hS M.hg (by decide); have ne_' := Ne.symm ne_
  have ne_ := Has.ne hS M.hb (by decide); have ne_' := Ne.symm ne_
  have HO := Lib.hid ho
  clear ho
  have FX_ := (hP).facts; simp only [blockFacts, listFacts, cellsAt, Nat.reduceAdd, and_true, true_and, and_assoc] at FX_
  have FX_ := (hS).facts; simp only [blockFacts, listFacts, cellsAt, Nat.reduceAdd, and_true, true_and, and_assoc, stackOf] at FX_
  have HP := hP
  have HS := hS
  go_enter Tryz.func83, Tryz.ntmps83
  go_wp2
  go_region_held3 (fun y => (y.cell? ⟨g, 5, none⟩ = some (.pointer (some ⟨S, 0, none⟩)) ∧ y.cell? ⟨S, 0, none⟩ = some (.pointer (some ⟨m, 0, none⟩))) ∧ y.cell? ⟨S, 1, none⟩ = some (.int .i64 hd)) (((repeat' (with_reducible apply And.intro)) <;> (apply Has.cellv; (focus ((repeat (first | (with_reducible assumption) | (with_reducible exact Has.new _ _ _) | (with_reducible exact Has.new1 _ _ _ _) | (with_reducible exact Has.new2 _ _ _ _ _) | (with_reducible refine Has.newAt ?_; (simp; done)) | (with_reducible apply Has.set) | (with_reducible apply Has.far; (case hn => first | assumption | (simp; done) | (intro e_; simp at e_; omega))) | (with_reducible apply Has.alloc) | (with_reducible apply Has.drewN) | (with_reducible apply Has.drew) | (with_reducible refine Has.keeps ?_ (by with_reducible assumption)))))); (first | (with_reducible assumption) | rfl | (simp; done) | fail))))
    ((go_at_call 118; refine (mload_in (M.keeps (by ((repeat' (first | (with_reducible exact Keeps.refl _) | (with_reducible assumption) | (with_reducible refine Keeps.drewN ?_ _) | (with_reducible refine Keeps.drew ?_) | (with_reducible refine Keeps.alloc ?_ _) | (with_reducible refine Keeps.setCell ?_ ?_ _) | (with_reducible refine Keeps.trans ?_ (After.keeps _)) | (with_reducible refine Keeps.trans ?_ (by with_reducible assumption)) | go_size)); (first | done | fail)))) hd HO.out hcc).mono ?_; rintro e w' ⟨rfl, hu2, M2⟩; have HP := (HP.keeps (by ((repeat' (first | (with_reducible exact Keeps.refl _) | (with_reducible assumption) | (with_reducible refine Keeps.drewN ?_ _) | (with_reducible refine Keeps.drew ?_) | (with_reducible refine Keeps.alloc ?_ _) | (with_reducible refine Keeps.setCell ?_ ?_ _) | (with_reducible refine Keeps.trans ?_ (After.keeps _)) | (with_reducible refine Keeps.trans ?_ (by with_reducible assumption)) | go_size)); (first | done | fail)))).upd hu2 (by simp only [List.mem_cons, List.not_mem_nil, or_false, not_or]; (repeat' apply And.intro) <;> assumption); have HS := (HS.keeps (by ((repeat' (first | (with_reducible exact Keeps.refl _) | (with_reducible assumption) | (with_reducible refine Keeps.drewN ?_ _) | (with_reducible refine Keeps.drew ?_) | (with_reducible refine Keeps.alloc ?_ _) | (with_reducible refine Keeps.setCell ?_ ?_ _) | (with_reducible refine Keeps.trans ?_ (After.keeps _)) | (with_reducible refine Keeps.trans ?_ (by with_reducible assumption)) | go_size)); (first | done | fail)))).upd hu2 (by simp only [List.mem_cons, List.not_mem_nil, or_false, not_or]; (repeat' apply And.intro) <;> assumption); have FX_ := (HP).facts; simp only [blockFacts, listFacts, cellsAt, Nat.reduceAdd, and_true, true_and, and_assoc] at FX_; have FX_ := (HS).facts; simp only [blockFacts, listFacts, cellsAt, Nat.reduceAdd, and_true, true_and, and_assoc, stackOf] at FX_))
  go_wp2_with (go_at_call 41; go_in)
  go_end0
  exact ⟨rfl, (Upd.drew (Upd.refl _ _)).trans ((hu2.mono (fun x hx => by simp at hx ⊢; omega)).trans (by (repeat (first | (with_reducible exact Upd.refl _ _) | (with_reducible assumption) | (with_reducible refine Upd.setCell ?_ (by first | (left; simp; done) | (right; go_size)) _) | (with_reducible refine Upd.alloc ?_ _) | (with_reducible refine Upd.drewN ?_ _) | (with_reducible refine Upd.drew ?_))))), by (apply Has.congr; (focus ((repeat (first | (with_reducible assumption) | (with_reducible exact Has.new _ _ _) | (with_reducible exact Has.new1 _ _ _ _) | (with_reducible exact Has.new2 _ _ _ _ _) | (with_reducible refine Has.newAt ?_; (simp; done)) | (with_reducible apply Has.set) | (with_reducible apply Has.far; (case hn => first | assumption | (simp; done) | (intro e_; simp at e_; omega))) | (with_reducible apply Has.alloc) | (with_reducible apply Has.drewN) | (with_reducible apply Has.drew) | (with_reducible refine Has.keeps ?_ (by with_reducible assumption)))))); (first | rfl | (simp; done))), (by repeat' (first | (with_reducible assumption) | (with_reducible apply Mem.alloc) | (with_reducible apply Mem.drewN) | (with_reducible apply Mem.drew) | (with_reducible apply Mem.far; (case h1 => first | assumption | (simp; done) | (intro e_; simp at e_; omega)); (case h2 => first | assumption | (simp; done) | (intro e_; simp at e_; omega)))))⟩
end
end Go.Proofs.YtaecapjicphdkaaGreat
