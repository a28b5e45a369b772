/- chain: is, behind, List, Set and Walk as plain machines. -/
import Derived.Test.YtcohhfndaogikaaChainW
namespace Go.Proofs.Ytcohhfndaogikaa
set_option linter.unusedVariables false
set_option linter.unusedSimpArgs false
open Go Go.RowKit
set_option maxRecDepth 100000
attribute [local go_sem ↓] Go.wp_at_zero Go.wp_at_succ
set_option maxHeartbeats 1000000

abbrev setOf (nx : Value) (c : Int) (X : Nat) (u t : Int) : Array Value := mach nx c [.pointer (some ⟨X, 0, none⟩), .int .i64 u, .int .i64 t]
abbrev walkOf (nx : Value) (c : Int) (X : Nat) (v : Value) : Array Value := mach nx c [.pointer (some ⟨X, 0, none⟩), v]
section
variable {w : World} {m bb N X P lk K g B : Nat} {l : List Int} {cc c0 : Int} {x : Acc} {p d s c b : Int}
theorem chainIs_c (a : Int) (hX : Has w X (chainOf m p K d s c b P) 114) :
    Calls Try.prog 65 #[.pointer (some ⟨X, 0, none⟩), .int .i64 a] w fun e w' => e = .returned (.bool (inB a K)) ∧ w = w' := by
  have FX_ := (hX).facts; simp only [blockFacts, listFacts, cellsAt, Nat.reduceAdd, and_true, true_and, and_assoc, chainOf] at FX_
  by_cases h : 0 ≤ a
  · go_enter Try.func65, Try.ntmps65
    go_wp2
    go_ret
    exact ⟨by unfold inB; rw [decide_eq_true h]; rfl, rfl⟩
  · go_enter Try.func65, Try.ntmps65
    go_wp2
    go_ret
    exact ⟨by unfold inB; rw [decide_eq_false (show ¬ 0 ≤ a by omega)]; rfl, rfl⟩
theorem chainBehind_c (v : Int) (hX : Has w X (chainOf m p K d s c b P) 114) (v0 : 0 ≤ v) (v1 : v < 18446744073709551616) (n1 : K ≤ 9000000) :
    Calls Try.prog 66 #[.pointer (some ⟨X, 0, none⟩), .int .u64 v] w fun e w' => e = .returned (.int .i64 (belowI K v)) ∧ w = w' := by
  have FX_ := (hX).facts; simp only [blockFacts, listFacts, cellsAt, Nat.reduceAdd, and_true, true_and, and_assoc, chainOf] at FX_
  unfold belowI
  have pw := wrapW_ok (K : Int) (by omega) (by omega)
  by_cases hc : (K : Int) < v
  · rw [if_pos hc]
    go_enter Try.func66, Try.ntmps66
    go_wp2
    go_ret
    exact ⟨rfl, rfl⟩
  · rw [if_neg hc]
    have h2 : v ≤ 9000000 := by omega
    go_enter Try.func66, Try.ntmps66
    go_wp2
    go_ret
    exact ⟨rfl, rfl⟩
theorem chainPool_c (hX : Has w X (chainOf m p K d s c b P) 114) :
    Calls Try.prog 30 #[.pointer (some ⟨X, 0, none⟩)] w fun e w' => e = .returned (.pointer (some ⟨P, 0, none⟩)) ∧ w = w' := by
  have FX_ := (hX).facts; simp only [blockFacts, listFacts, cellsAt, Nat.reduceAdd, and_true, true_and, and_assoc, chainOf] at FX_
  go_enter Try.func30, Try.ntmps30
  go_wp2
  go_ret
  exact ⟨rfl, rfl⟩
theorem chainFill_c (hX : Has w X (chainOf m p K d s c b P) 114) (hP : Has w P (stackOf m (0 : Nat) lk K) 138) (M : Mem w m bb N l cc x) (h1 : 1 ≤ K) (h2 : K ≤ 4096) (h3 : lk + K ≤ N) (h4 : 0 < N) :
    Calls Try.prog 59 #[.pointer (some ⟨X, 0, none⟩)] w fun e w' => e = .returned (.tuple #[]) ∧ Upd [m, bb] w w' ∧ Mem w' m bb N (stFill 0 lk K l) cc x := by
  have FX_ := (hX).facts; simp only [blockFacts, listFacts, cellsAt, Nat.reduceAdd, and_true, true_and, and_assoc, chainOf] at FX_
  go_enter Try.func59, Try.ntmps59
  go_wp2_with (go_at_call 46; refine (fill_c hP M h1 h2 h3 h4).mono ?_; rintro e w' ⟨rfl, hu, M2⟩)
  go_end0
  exact ⟨rfl, hu, M2⟩
theorem mkSet_c (u t : Int) (hX : Has w X (chainOf m p K d s c b P) 114) (hu : inB u K = true) (ht : t = -1 ∨ inB t K = true) :
    Calls Try.prog 27 #[.pointer (some ⟨X, 0, none⟩), .int .i64 u, .int .i64 t] w fun e w' => ∃ g, e = .returned (.tuple #[.pointer (some ⟨g, 0, none⟩), .int .i64 0]) ∧ Keeps w w' ∧ w.heap.size ≤ g ∧ Has w' g (setOf (bound 73 g) 0 X u t) 129 := by
  have HU := Lib.hid hu
  clear hu
  rcases ht with rfl | ht
  · go_enter Try.func27, Try.ntmps27
    go_wp2_with (first
      | (go_at_call 65; refine (chainIs_c _ hX).mono ?_; rintro e w' ⟨rfl, rfl⟩; rw [HU.out])
      | (go_at_call 72; go_in))
    go_ret2
    exact ⟨w.heap.size, rfl, by ((repeat' (first | (with_reducible exact Keeps.refl _) | (with_reducible assumption) | (with_reducible refine Keeps.drewN ?_ _) | (with_reducible refine Keeps.drew ?_) | (with_reducible refine Keeps.alloc ?_ _) | (with_reducible refine Keeps.setCell ?_ ?_ _) | (with_reducible refine Keeps.trans ?_ (After.keeps _)) | (with_reducible refine Keeps.trans ?_ (by with_reducible assumption)) | go_size)); (first | done | fail)), Nat.le_refl _, by (apply Has.congr; (focus ((repeat (first | (with_reducible assumption) | (with_reducible exact Has.new _ _ _) | (with_reducible exact Has.new1 _ _ _ _) | (with_reducible exact Has.new2 _ _ _ _ _) | (with_reducible refine Has.newAt ?_; (simp; done)) | (with_reducible apply Has.set) | (with_reducible apply Has.far; (case hn => first | assumption | (simp; done) | (intro e_; simp at e_; omega))) | (with_reducible apply Has.alloc) | (with_reducible apply Has.drewN) | (with_reducible apply Has.drew) | (with_reducible refine Has.keeps ?_ (by with_reducible assumption)))))); (first | rfl | (simp; done)))⟩
  · have HT := Lib.hid ht
    have t0 := (inB_true.1 ht).1
    have tn : (t != -1) = true := by simp; omega
    have tn2 : (t == -1) = false := by simp; omega
    clear ht
    go_enter Try.func27, Try.ntmps27
    go_wp2_with (first
      | (go_at_call 65; refine (chainIs_c _ hX).mono ?_; rintro e w' ⟨rfl, rfl⟩; (first | rw [HU.out] | rw [HT.out]))
      | (go_at_call 72; go_in))
    go_ret2
    exact ⟨w.heap.size, rfl, by ((repeat' (first | (with_reducible exact Keeps.refl _) | (with_reducible assumption) | (with_reducible refine Keeps.drewN ?_ _) | (with_reducible refine Keeps.drew ?_) | (with_reducible refine Keeps.alloc ?_ _) | (with_reducible refine Keeps.setCell ?_ ?_ _) | (with_reducible refine Keeps.trans ?_ (After.keeps _)) | (with_reducible refine Keeps.trans ?_ (by with_reducible assumption)) | go_size)); (first | done | fail)), Nat.le_refl _, by (apply Has.congr; (focus ((repeat (first | (with_reducible assumption) | (with_reducible exact Has.new _ _ _) | (with_reducible exact Has.new1 _ _ _ _) | (with_reducible exact Has.new2 _ _ _ _ _) | (with_reducible refine Has.newAt ?_; (simp; done)) | (with_reducible apply Has.set) | (with_reducible apply Has.far; (case hn => first | assumption | (simp; done) | (intro e_; simp at e_; omega))) | (with_reducible apply Has.alloc) | (with_reducible apply Has.drewN) | (with_reducible apply Has.drew) | (with_reducible refine Has.keeps ?_ (by with_reducible assumption)))))); (first | rfl | (simp; done)))⟩
theorem mkSet_no (u t : Int) (hX : Has w X (chainOf m p K d s c b P) 114) (h : inB u K = false ∨ (inB u K = true ∧ t ≠ -1 ∧ inB t K = false)) :
    Calls Try.prog 27 #[.pointer (some ⟨X, 0, none⟩), .int .i64 u, .int .i64 t] w fun e w' => e = .returned (.tuple #[.pointer none, .int .i64 1]) ∧ w = w' := by
  rcases h with hu | ⟨hu, tn0, ht⟩
  · have HU := Lib.hid hu
    clear hu
    go_enter Try.func27, Try.ntmps27
    go_wp2_with (go_at_call 65; refine (chainIs_c _ hX).mono ?_; rintro e w' ⟨rfl, rfl⟩; rw [HU.out])
    go_ret2
    exact ⟨rfl, rfl⟩
  · have HU := Lib.hid hu
    have HT := Lib.hid ht
    have tn : (t != -1) = true := by simp [tn0]
    have tn2 : (t == -1) = false := by simp [tn0]
    clear hu ht tn0
    go_enter Try.func27, Try.ntmps27
    go_wp2_with (go_at_call 65; refine (chainIs_c _ hX).mono ?_; rintro e w' ⟨rfl, rfl⟩; (first | rw [HU.out] | rw [HT.out]))
    go_ret2
    exact ⟨rfl, rfl⟩
theorem mkWalk_c (u : Int) (hX : Has w X (chainOf m p K d s c b P) 114) (hu : inB u K = true) :
    Calls Try.prog 28 #[.pointer (some ⟨X, 0, none⟩), .int .i64 u] w fun e w' => ∃ g lb, e = .returned (.tuple #[.pointer (some ⟨g, 0, none⟩), .int .i64 0]) ∧ Keeps w w' ∧ w.heap.size ≤ g ∧ Has w' g (walkOf (bound 74 g) 0 X (.slice (some ⟨lb, 0, none⟩) 1 1)) 132 ∧ Row w.heap.size 3 w' (.slice (some ⟨lb, 0, none⟩) 1 1) (ivals [u]) := by
  have HU := Lib.hid hu
  clear hu
  go_enter Try.func28, Try.ntmps28
  go_wp2_with (first
    | (go_at_call 65; refine (chainIs_c _ hX).mono ?_; rintro e w' ⟨rfl, rfl⟩; rw [HU.out])
    | (go_at_call 72; go_in))
  go_ret2
  exact ⟨w.heap.size + 1, w.heap.size, rfl, by ((repeat' (first | (with_reducible exact Keeps.refl _) | (with_reducible assumption) | (with_reducible refine Keeps.drewN ?_ _) | (with_reducible refine Keeps.drew ?_) | (with_reducible refine Keeps.alloc ?_ _) | (with_reducible refine Keeps.setCell ?_ ?_ _) | (with_reducible refine Keeps.trans ?_ (After.keeps _)) | (with_reducible refine Keeps.trans ?_ (by with_reducible assumption)) | go_size)); (first | done | fail)), by omega, by (apply Has.congr; (focus ((repeat (first | (with_reducible assumption) | (with_reducible exact Has.new _ _ _) | (with_reducible exact Has.new1 _ _ _ _) | (with_reducible exact Has.new2 _ _ _ _ _) | (with_reducible refine Has.newAt ?_; (simp; done)) | (with_reducible apply Has.set) | (with_reducible apply Has.far; (case hn => first | assumption | (simp; done) | (intro e_; simp at e_; omega))) | (with_reducible apply Has.alloc) | (with_reducible apply Has.drewN) | (with_reducible apply Has.drew) | (with_reducible refine Has.keeps ?_ (by with_reducible assumption)))))); (first | rfl | (simp; done))), Row.one (by (apply Has.congr; (focus ((repeat (first | (with_reducible assumption) | (with_reducible exact Has.new _ _ _) | (with_reducible exact Has.new1 _ _ _ _) | (with_reducible exact Has.new2 _ _ _ _ _) | (with_reducible refine Has.newAt ?_; (simp; done)) | (with_reducible apply Has.set) | (with_reducible apply Has.far; (case hn => first | assumption | (simp; done) | (intro e_; simp at e_; omega))) | (with_reducible apply Has.alloc) | (with_reducible apply Has.drewN) | (with_reducible apply Has.drew) | (with_reducible refine Has.keeps ?_ (by with_reducible assumption)))))); (first | rfl | (simp; done)))) (Nat.le_refl _)⟩
theorem mkWalk_no (u : Int) (hX : Has w X (chainOf m p K d s c b P) 114) (hu : inB u K = false) :
    Calls Try.prog 28 #[.pointer (some ⟨X, 0, none⟩), .int .i64 u] w fun e w' => e = .returned (.tuple #[.pointer none, .int .i64 1]) ∧ w = w' := by
  have HU := Lib.hid hu
  clear hu
  go_enter Try.func28, Try.ntmps28
  go_wp2_with (go_at_call 65; refine (chainIs_c _ hX).mono ?_; rintro e w' ⟨rfl, rfl⟩; rw [HU.out])
  go_ret2
  exact ⟨rfl, rfl⟩
theorem setStore_c {q : Nat} {u t o : Int} (hG : Has w g (setOf .nilFunc c0 X u t) 129) (hX : Has w X (chainOf m p K d s c b P) 114) (M : Mem w m bb N l cc x) (hm : mayB p K d s c b = true) (u0 : 0 ≤ u) (u1 : u < K) (t0 : -1 ≤ t) (t1 : t < K) (hq : 3 + p + s + s + u = q) (ho : l[q]? = some o) (hcc : cc < 4611686018427387903) :
    Calls Try.prog 73 #[.pointer (some ⟨g, 0, none⟩)] w fun e w' => e = .returned (.tuple #[]) ∧ Upd [m, bb] w w' ∧ Mem w' m bb N (l.set q (t + 1)) (cc + 1) ⟨2, q, o, t + 1, true⟩ := by
  have k4 := (mayB_true.1 hm).2.1.2
  have ne_ := Has.ne hG hX (by decide); have ne_' := Ne.symm ne_
  have ne_ := Has.ne hG M.hg (by decide); have ne_' := Ne.symm ne_
  have ne_ := Has.ne hG M.hb (by decide); have ne_' := Ne.symm ne_
  have ne_ := Has.ne hX M.hg (by decide); have ne_' := Ne.symm ne_
  have ne_ := Has.ne hX M.hb (by decide); have ne_' := Ne.symm ne_
  have HO := Lib.hid ho
  have HQ := Lib.hid hq
  have HM := Lib.hid hm
  have pw := wrapI_ok (t + 1) (by omega) (by omega)
  have pw2 := wrapW_ok (t + 1) (by omega) (by omega)
  clear ho hq hm
  have FX_ := (hG).facts; simp only [blockFacts, listFacts, cellsAt, Nat.reduceAdd, and_true, true_and, and_assoc] at FX_
  have FX_ := (hX).facts; simp only [blockFacts, listFacts, cellsAt, Nat.reduceAdd, and_true, true_and, and_assoc, chainOf] at FX_
  have HG := hG
  have HX := hX
  have HKp := Keeps.refl w
  go_enter Try.func73, Try.ntmps73
  go_region_held3 (fun y => ((((((((y.cell? ⟨g, 5, none⟩ = some (.pointer (some ⟨X, 0, none⟩)) ∧ y.cell? ⟨X, 0, none⟩ = some (.pointer (some ⟨m, 0, none⟩))) ∧ y.cell? ⟨X, 1, none⟩ = some (.int .i64 p)) ∧ y.cell? ⟨X, 2, none⟩ = some (.int .i64 K)) ∧ y.cell? ⟨X, 3, none⟩ = some (.int .i64 d)) ∧ y.cell? ⟨X, 4, none⟩ = some (.int .i64 s)) ∧ y.cell? ⟨X, 5, none⟩ = some (.int .i64 c)) ∧ y.cell? ⟨X, 6, none⟩ = some (.int .i64 b)) ∧ y.cell? ⟨g, 6, none⟩ = some (.int .i64 u)) ∧ y.cell? ⟨g, 7, none⟩ = some (.int .i64 t)) (((repeat' (with_reducible apply And.intro)) <;> (apply Has.cellv; (focus ((repeat (first | (with_reducible assumption) | (with_reducible exact Has.new _ _ _) | (with_reducible exact Has.new1 _ _ _ _) | (with_reducible exact Has.new2 _ _ _ _ _) | (with_reducible refine Has.newAt ?_; (simp; done)) | (with_reducible apply Has.set) | (with_reducible apply Has.far; (case hn => first | assumption | (simp; done) | (intro e_; simp at e_; omega))) | (with_reducible apply Has.alloc) | (with_reducible apply Has.drewN) | (with_reducible apply Has.drew) | (with_reducible refine Has.keeps ?_ (by with_reducible assumption)))))); (first | (with_reducible assumption) | rfl | (simp; done) | fail))))
    (first
      | (go_at_call 21; refine (link_in _ _ _ _ _ _ _ _ HM.out u0 u1).mono ?_; rintro e w' ⟨rfl, hk5⟩; rw [HQ.out]; have HG := (HG.keeps (by ((repeat' (first | (with_reducible exact Keeps.refl _) | (with_reducible assumption) | (with_reducible refine Keeps.drewN ?_ _) | (with_reducible refine Keeps.drew ?_) | (with_reducible refine Keeps.alloc ?_ _) | (with_reducible refine Keeps.setCell ?_ ?_ _) | (with_reducible refine Keeps.trans ?_ (After.keeps _)) | (with_reducible refine Keeps.trans ?_ (by with_reducible assumption)) | go_size)); (first | done | fail)))).keeps hk5; have HX := (HX.keeps (by ((repeat' (first | (with_reducible exact Keeps.refl _) | (with_reducible assumption) | (with_reducible refine Keeps.drewN ?_ _) | (with_reducible refine Keeps.drew ?_) | (with_reducible refine Keeps.alloc ?_ _) | (with_reducible refine Keeps.setCell ?_ ?_ _) | (with_reducible refine Keeps.trans ?_ (After.keeps _)) | (with_reducible refine Keeps.trans ?_ (by with_reducible assumption)) | go_size)); (first | done | fail)))).keeps hk5; have HKp := (HKp.drew).trans hk5)
      | (go_at_call 101; refine (mstore_in (M.keeps (by ((repeat' (first | (with_reducible exact Keeps.refl _) | (with_reducible assumption) | (with_reducible refine Keeps.drewN ?_ _) | (with_reducible refine Keeps.drew ?_) | (with_reducible refine Keeps.alloc ?_ _) | (with_reducible refine Keeps.setCell ?_ ?_ _) | (with_reducible refine Keeps.trans ?_ (After.keeps _)) | (with_reducible refine Keeps.trans ?_ (by with_reducible assumption)) | go_size)); (first | done | fail)))) q _ HO.out hcc).mono ?_; rintro e w' ⟨rfl, hu2, M2⟩; have HG := HG.upd hu2 (by simp only [List.mem_cons, List.not_mem_nil, or_false, not_or]; (repeat' apply And.intro) <;> assumption); have HX := HX.upd hu2 (by simp only [List.mem_cons, List.not_mem_nil, or_false, not_or]; (repeat' apply And.intro) <;> assumption)))
  go_end0
  exact ⟨rfl, (Upd.of_keeps HKp).trans hu2, M2⟩
end
end Go.Proofs.Ytcohhfndaogikaa
