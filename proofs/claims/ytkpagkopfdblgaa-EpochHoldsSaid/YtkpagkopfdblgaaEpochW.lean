/- What package epoch does: each function walked once. -/
import Derived.Test.YtkpagkopfdblgaaMem
import Derived.Test.YtkpagkopfdblgaaNum
import Derived.Test.YtkpagkopfdblgaaMach
import Derived.Test.YtkpagkopfdblgaaWordW
import Derived.Deep.RegionHeld3
import Derived.Deep.DrawnRows
namespace Go.Proofs.Ytkpagkopfdblgaa
set_option linter.unusedVariables false
set_option linter.unusedSimpArgs false
open Go Go.RowKit
set_option maxRecDepth 100000
attribute [local go_sem ↓] Go.wp_at_zero Go.wp_at_succ

/-- An Epoch's struct. -/
def epochOf (m : Nat) (a p n : Int) : Array Value := #[.pointer (some ⟨m, 0, none⟩), .int .i64 a, .int .i64 p, .int .i64 n]
def cutI (v : Int) : Int := if v < 4611686018427387903 then v else 4611686018427387903
theorem ret_eq {k : IntKind} {a b : Int} (h : a = b) : Ending.returned (.int k a) = .returned (.int k b) := by rw [h]
theorem cut_c (v : Int) (w : World) (h0 : 0 ≤ v) : Calls Try.prog 84 #[.int .u64 v] w fun e w' => e = .returned (.int .i64 (cutI v)) ∧ w = w' := by
  by_cases h : v < 4611686018427387903
  · have e : cutI v = v := if_pos h
    rw [e]
    clear e
    go_enter Try.func84, Try.ntmps84
    go_wp2
    go_ret
    exact ⟨rfl, rfl⟩
  · have e : cutI v = 4611686018427387903 := if_neg h
    rw [e]
    clear e
    go_enter Try.func84, Try.ntmps84
    go_wp2
    all_goals go_ret
    all_goals first | exact ⟨rfl, rfl⟩ | exact ⟨ret_eq (by omega), rfl⟩
theorem wrap_ok (a : Int) (h0 : -9223372036854775808 ≤ a) (h1 : a < 9223372036854775808) : IntKind.i64.wrap a = a := by
  rw [IntKind.wrap_i64]
  omega
theorem wrapU_ok (a : Int) (h0 : 0 ≤ a) (h1 : a < 18446744073709551616) : IntKind.u64.wrap a = a := by
  simp [IntKind.wrap, IntKind.signed, IntKind.bits]
  omega
theorem wp_named {P : Program} {c : Code} {Q : Exit → Act → World → Prop} {a : Act} {w : World} (h : ∀ W, W = w → c.wp P Q a W) : c.wp P Q a w := h w rfl
theorem putPin_ok (n : Int) (w : World) (h0 : 0 ≤ n) (h1 : n ≤ 4611686018427387903) : Calls Try.prog 21 #[.int .i64 n] w fun e w' => e = .returned (.tuple #[.int .u64 (2 * n + 1), .bool true]) ∧ ∃ k, w' = w.drewN k := by
  have h := withinB_true.2 ⟨h0, h1⟩
  have e : pinI n = 2 * n + 1 := by unfold pinI; rw [h]; rfl
  have k := putPin_c n w
  rw [h, e] at k
  exact k
theorem cut_at (v K : Int) (w : World) (h0 : 0 ≤ v) (hK : cutI v = K) : Calls Try.prog 84 #[.int .u64 v] w fun e w' => e = .returned (.int .i64 K) ∧ w = w' := by
  rw [← hK]; exact cut_c v w h0
theorem getPin_odd (x : Int) (w : World) (h0 : 0 ≤ x) (h1 : x < 18446744073709551616) (h : x % 2 = 1) : Calls Try.prog 27 #[.int .u64 x] w fun e w' => e = .returned (.tuple #[.int .i64 (x / 2), .bool true]) ∧ ∃ k, w' = w.drewN k := by
  have e : pinGet x = x / 2 := by unfold pinGet; rw [if_neg (by omega)]
  have e2 : (!(x % 2 == 0)) = true := by rw [h]; rfl
  have k := getPin_c x w h0 h1
  rw [e, e2] at k
  exact k
theorem getPin_even (x : Int) (w : World) (h0 : 0 ≤ x) (h1 : x < 18446744073709551616) (h : x % 2 = 0) : Calls Try.prog 27 #[.int .u64 x] w fun e w' => e = .returned (.tuple #[.int .i64 0, .bool false]) ∧ ∃ k, w' = w.drewN k := by
  have e : pinGet x = 0 := by unfold pinGet; rw [if_pos h]
  have e2 : (!(x % 2 == 0)) = false := by rw [h]; rfl
  have k := getPin_c x w h0 h1
  rw [e, e2] at k
  exact k
section
variable {w : World} {E m b N : Nat} {a i : Nat} {p n : Int} {l : List Int} {cc : Int} {x : Acc} {g : Nat} {c who now v was wk o : Int} {won : Bool}
theorem enterLoad_c (hg : Has w g (mach .nilFunc c [.pointer (some ⟨E, 0, none⟩), .int .i64 who, .int .i64 now]) 164)
    (hE : Has w E (epochOf m a p n) 144) (M : Mem w m b N l cc x) (hv : l[a]? = some v) (v0 : 0 ≤ v) (hcc : cc < 4611686018427387903) :
    Calls Try.prog 101 #[.pointer (some ⟨g, 0, none⟩)] w fun e w' => e = .returned (.tuple #[]) ∧ Upd [g, m, b] w w' ∧
      Has w' g (mach (bound 109 g) c [.pointer (some ⟨E, 0, none⟩), .int .i64 who, .int .i64 (cutI v)]) 164 ∧ Mem w' m b N l (cc + 1) ⟨1, a, v, v, true⟩ := by
  have n1 : g ≠ E := hg.ne hE (by decide)
  have n2 : g ≠ m := hg.ne M.hg (by decide)
  have n3 : g ≠ b := hg.ne M.hb (by decide)
  have n4 : E ≠ m := hE.ne M.hg (by decide)
  have n5 : E ≠ b := hE.ne M.hb (by decide)
  have n6 : m ≠ g := fun e => n2 e.symm
  have n7 : b ≠ g := fun e => n3 e.symm
  have HV := Lib.hid hv
  clear hv
  have F1 := hg.facts; simp only [blockFacts, listFacts, cellsAt, Nat.reduceAdd, and_true, true_and, and_assoc] at F1
  have F2 := hE.facts; simp only [blockFacts, listFacts, cellsAt, epochOf, Nat.reduceAdd, and_true, true_and, and_assoc] at F2
  have HG := hg
  have HE := hE
  go_enter Try.func101, Try.ntmps101
  go_wp2
  go_region_held3 (fun y => (y.cell? ⟨g, 5, none⟩ = some (.pointer (some ⟨E, 0, none⟩)) ∧ y.cell? ⟨E, 0, none⟩ = some (.pointer (some ⟨m, 0, none⟩))) ∧ y.cell? ⟨E, 1, none⟩ = some (.int .i64 a)) (((repeat' (with_reducible apply And.intro)) <;> (apply Has.cellv; (focus ((repeat (first | (with_reducible assumption) | (with_reducible exact Has.new _ _ _) | (with_reducible exact Has.new1 _ _ _ _) | (with_reducible exact Has.new2 _ _ _ _ _) | (with_reducible refine Has.newAt ?_; (simp; done)) | (with_reducible apply Has.set) | (with_reducible apply Has.far; (case hn => first | assumption | (simp; done) | (intro e_; simp at e_; omega))) | (with_reducible apply Has.alloc) | (with_reducible apply Has.drewN) | (with_reducible apply Has.drew) | (with_reducible refine Has.keeps ?_ (by with_reducible assumption)))))); (first | (with_reducible assumption) | rfl | (simp; done) | fail))))
    ((go_at_call 35; refine (mload_in (M.keeps (by ((repeat' (first | (with_reducible exact Keeps.refl _) | (with_reducible assumption) | (with_reducible refine Keeps.drewN ?_ _) | (with_reducible refine Keeps.drew ?_) | (with_reducible refine Keeps.alloc ?_ _) | (with_reducible refine Keeps.setCell ?_ ?_ _) | (with_reducible refine Keeps.trans ?_ (After.keeps _)) | (with_reducible refine Keeps.trans ?_ (by with_reducible assumption)) | go_size)); (first | done | fail)))) a HV.out hcc).mono ?_; rintro e w' ⟨rfl, hu2, M2⟩; have HG := (HG.keeps (by ((repeat' (first | (with_reducible exact Keeps.refl _) | (with_reducible assumption) | (with_reducible refine Keeps.drewN ?_ _) | (with_reducible refine Keeps.drew ?_) | (with_reducible refine Keeps.alloc ?_ _) | (with_reducible refine Keeps.setCell ?_ ?_ _) | (with_reducible refine Keeps.trans ?_ (After.keeps _)) | (with_reducible refine Keeps.trans ?_ (by with_reducible assumption)) | go_size)); (first | done | fail)))).upd hu2 (by simp; exact ⟨n2, n3⟩); have HE := (HE.keeps (by ((repeat' (first | (with_reducible exact Keeps.refl _) | (with_reducible assumption) | (with_reducible refine Keeps.drewN ?_ _) | (with_reducible refine Keeps.drew ?_) | (with_reducible refine Keeps.alloc ?_ _) | (with_reducible refine Keeps.setCell ?_ ?_ _) | (with_reducible refine Keeps.trans ?_ (After.keeps _)) | (with_reducible refine Keeps.trans ?_ (by with_reducible assumption)) | go_size)); (first | done | fail)))).upd hu2 (by simp; exact ⟨n4, n5⟩)))
  have F3 := HG.facts; simp only [blockFacts, listFacts, cellsAt, Nat.reduceAdd, and_true, true_and, and_assoc] at F3
  go_wp2_with (first
    | (go_at_call 84; refine (cut_c _ _ v0).mono ?_; rintro e w' ⟨rfl, rfl⟩)
    | (go_at_call 80; go_in))
  go_end0
  exact ⟨rfl, (Upd.drew (Upd.refl _ _)).trans ((hu2.mono (fun x hx => List.mem_cons_of_mem _ hx)).trans (by (repeat (first | (with_reducible exact Upd.refl _ _) | (with_reducible assumption) | (with_reducible refine Upd.setCell ?_ (by first | (left; simp; done) | (right; go_size)) _) | (with_reducible refine Upd.alloc ?_ _) | (with_reducible refine Upd.drewN ?_ _) | (with_reducible refine Upd.drew ?_))))), by (apply Has.congr; (focus ((repeat (first | (with_reducible assumption) | (with_reducible exact Has.new _ _ _) | (with_reducible exact Has.new1 _ _ _ _) | (with_reducible exact Has.new2 _ _ _ _ _) | (with_reducible refine Has.newAt ?_; (simp; done)) | (with_reducible apply Has.set) | (with_reducible apply Has.far; (case hn => first | assumption | (simp; done) | (intro e_; simp at e_; omega))) | (with_reducible apply Has.alloc) | (with_reducible apply Has.drewN) | (with_reducible apply Has.drew) | (with_reducible refine Has.keeps ?_ (by with_reducible assumption)))))); (first | rfl | (simp; done))), (by repeat' (first | (with_reducible assumption) | (with_reducible apply Mem.alloc) | (with_reducible apply Mem.drewN) | (with_reducible apply Mem.drew) | (with_reducible apply Mem.far; (case h1 => first | assumption | (simp; done) | (intro e_; simp at e_; omega)); (case h2 => first | assumption | (simp; done) | (intro e_; simp at e_; omega)))))⟩
theorem enterStore_c (hg : Has w g (mach .nilFunc c [.pointer (some ⟨E, 0, none⟩), .int .i64 who, .int .i64 now]) 164)
    (hE : Has w E (epochOf m a p n) 144) (M : Mem w m b N l cc x) (hi : p + who = i) (ho : l[i]? = some o) (p1 : i < 9223372036854775808) (w0 : 0 ≤ now) (w1 : now ≤ 4611686018427387903) (hcc : cc < 4611686018427387903) :
    Calls Try.prog 109 #[.pointer (some ⟨g, 0, none⟩)] w fun e w' => e = .returned (.tuple #[]) ∧ Upd [g, m, b] w w' ∧
      Has w' g (mach .nilFunc c [.pointer (some ⟨E, 0, none⟩), .int .i64 who, .int .i64 now]) 164 ∧ Mem w' m b N (l.set i (2 * now + 1)) (cc + 1) ⟨2, i, o, 2 * now + 1, true⟩ := by
  have ne_ := Has.ne hg hE (by decide); have ne_' := Ne.symm ne_
  have ne_ := Has.ne hg M.hg (by decide); have ne_' := Ne.symm ne_
  have ne_ := Has.ne hg M.hb (by decide); have ne_' := Ne.symm ne_
  have ne_ := Has.ne hE M.hg (by decide); have ne_' := Ne.symm ne_
  have ne_ := Has.ne hE M.hb (by decide); have ne_' := Ne.symm ne_
  have p0 : 0 ≤ p + who := by omega
  have p2 : p + who < 9223372036854775808 := by omega
  have HO := Lib.hid ho
  have HI := Lib.hid hi
  have pw := wrap_ok (p + who) (by omega) (by omega)
  clear ho hi p1
  have FX_ := (hg).facts; simp only [blockFacts, listFacts, cellsAt, Nat.reduceAdd, and_true, true_and, and_assoc] at FX_
  have FX_ := (hE).facts; simp only [blockFacts, listFacts, cellsAt, Nat.reduceAdd, and_true, true_and, and_assoc, epochOf] at FX_
  have HG := hg
  have HE := hE
  have MW := M
  go_enter Try.func109, Try.ntmps109
  go_wp2_with (go_at_call 21; refine (putPin_ok _ _ w0 w1).mono ?_; rintro e w' ⟨rfl, k_pin, rfl⟩)
  refine wp_named (fun W hW => ?_)
  have HK : Keeps w W := by rw [hW]; ((repeat' (first | (with_reducible exact Keeps.refl _) | (with_reducible assumption) | (with_reducible refine Keeps.drewN ?_ _) | (with_reducible refine Keeps.drew ?_) | (with_reducible refine Keeps.alloc ?_ _) | (with_reducible refine Keeps.setCell ?_ ?_ _) | (with_reducible refine Keeps.trans ?_ (After.keeps _)) | (with_reducible refine Keeps.trans ?_ (by with_reducible assumption)) | go_size)); (first | done | fail))
  have hu1 : Upd [g, m, b] w W := Upd.of_keeps HK
  have HG := hg.keeps HK
  have HE := hE.keeps HK
  have MW := M.keeps HK
  clear hW
  have FX_ := (HG).facts; simp only [blockFacts, listFacts, cellsAt, Nat.reduceAdd, and_true, true_and, and_assoc] at FX_
  have FX_ := (HE).facts; simp only [blockFacts, listFacts, cellsAt, Nat.reduceAdd, and_true, true_and, and_assoc, epochOf] at FX_
  clear hg hE M HK
  go_region_held3 (fun y => (y.cell? ⟨g, 5, none⟩ = some (.pointer (some ⟨E, 0, none⟩)) ∧ y.cell? ⟨E, 0, none⟩ = some (.pointer (some ⟨m, 0, none⟩))) ∧ y.cell? ⟨E, 2, none⟩ = some (.int .i64 p) ∧ y.cell? ⟨g, 6, none⟩ = some (.int .i64 who)) (((repeat' (with_reducible apply And.intro)) <;> (apply Has.cellv; (focus ((repeat (first | (with_reducible assumption) | (with_reducible exact Has.new _ _ _) | (with_reducible exact Has.new1 _ _ _ _) | (with_reducible exact Has.new2 _ _ _ _ _) | (with_reducible refine Has.newAt ?_; (simp; done)) | (with_reducible apply Has.set) | (with_reducible apply Has.far; (case hn => first | assumption | (simp; done) | (intro e_; simp at e_; omega))) | (with_reducible apply Has.alloc) | (with_reducible apply Has.drewN) | (with_reducible apply Has.drew) | (with_reducible refine Has.keeps ?_ (by with_reducible assumption)))))); (first | (with_reducible assumption) | rfl | (simp; done) | fail))))
    ((go_at_call 37; refine (mstore_at (MW.keeps (by ((repeat' (first | (with_reducible exact Keeps.refl _) | (with_reducible assumption) | (with_reducible refine Keeps.drewN ?_ _) | (with_reducible refine Keeps.drew ?_) | (with_reducible refine Keeps.alloc ?_ _) | (with_reducible refine Keeps.setCell ?_ ?_ _) | (with_reducible refine Keeps.trans ?_ (After.keeps _)) | (with_reducible refine Keeps.trans ?_ (by with_reducible assumption)) | go_size)); (first | done | fail)))) i _ _ HI.out HO.out hcc).mono ?_; rintro e w' ⟨rfl, hu2, M2⟩; have HG := (HG.keeps (by ((repeat' (first | (with_reducible exact Keeps.refl _) | (with_reducible assumption) | (with_reducible refine Keeps.drewN ?_ _) | (with_reducible refine Keeps.drew ?_) | (with_reducible refine Keeps.alloc ?_ _) | (with_reducible refine Keeps.setCell ?_ ?_ _) | (with_reducible refine Keeps.trans ?_ (After.keeps _)) | (with_reducible refine Keeps.trans ?_ (by with_reducible assumption)) | go_size)); (first | done | fail)))).upd hu2 (by simp only [List.mem_cons, List.not_mem_nil, or_false, not_or]; (repeat' apply And.intro) <;> assumption); have HE := (HE.keeps (by ((repeat' (first | (with_reducible exact Keeps.refl _) | (with_reducible assumption) | (with_reducible refine Keeps.drewN ?_ _) | (with_reducible refine Keeps.drew ?_) | (with_reducible refine Keeps.alloc ?_ _) | (with_reducible refine Keeps.setCell ?_ ?_ _) | (with_reducible refine Keeps.trans ?_ (After.keeps _)) | (with_reducible refine Keeps.trans ?_ (by with_reducible assumption)) | go_size)); (first | done | fail)))).upd hu2 (by simp only [List.mem_cons, List.not_mem_nil, or_false, not_or]; (repeat' apply And.intro) <;> assumption)))
  go_end0
  exact ⟨rfl, (Upd.drew hu1).trans (hu2.mono (fun x hx => by simp at hx ⊢; omega)), HG, M2⟩
theorem leaveStore_c (hg : Has w g (mach .nilFunc c [.pointer (some ⟨E, 0, none⟩), .int .i64 who]) 166)
    (hE : Has w E (epochOf m a p n) 144) (M : Mem w m b N l cc x) (hi : p + who = i) (ho : l[i]? = some o) (p1 : i < 9223372036854775808) (hcc : cc < 4611686018427387903) :
    Calls Try.prog 102 #[.pointer (some ⟨g, 0, none⟩)] w fun e w' => e = .returned (.tuple #[]) ∧ Upd [g, m, b] w w' ∧
      Has w' g (mach .nilFunc c [.pointer (some ⟨E, 0, none⟩), .int .i64 who]) 166 ∧ Mem w' m b N (l.set i 0) (cc + 1) ⟨2, i, o, 0, true⟩ := by
  have ne_ := Has.ne hg hE (by decide); have ne_' := Ne.symm ne_
  have ne_ := Has.ne hg M.hg (by decide); have ne_' := Ne.symm ne_
  have ne_ := Has.ne hg M.hb (by decide); have ne_' := Ne.symm ne_
  have ne_ := Has.ne hE M.hg (by decide); have ne_' := Ne.symm ne_
  have ne_ := Has.ne hE M.hb (by decide); have ne_' := Ne.symm ne_
  have p0 : 0 ≤ p + who := by omega
  have p2 : p + who < 9223372036854775808 := by omega
  have HO := Lib.hid ho
  have HI := Lib.hid hi
  have pw := wrap_ok (p + who) (by omega) (by omega)
  clear ho hi p1
  have FX_ := (hg).facts; simp only [blockFacts, listFacts, cellsAt, Nat.reduceAdd, and_true, true_and, and_assoc] at FX_
  have FX_ := (hE).facts; simp only [blockFacts, listFacts, cellsAt, Nat.reduceAdd, and_true, true_and, and_assoc, epochOf] at FX_
  have HG := hg
  have HE := hE
  go_enter Try.func102, Try.ntmps102
  go_wp2
  go_region_held3 (fun y => (y.cell? ⟨g, 5, none⟩ = some (.pointer (some ⟨E, 0, none⟩)) ∧ y.cell? ⟨E, 0, none⟩ = some (.pointer (some ⟨m, 0, none⟩))) ∧ y.cell? ⟨E, 2, none⟩ = some (.int .i64 p) ∧ y.cell? ⟨g, 6, none⟩ = some (.int .i64 who)) (((repeat' (with_reducible apply And.intro)) <;> (apply Has.cellv; (focus ((repeat (first | (with_reducible assumption) | (with_reducible exact Has.new _ _ _) | (with_reducible exact Has.new1 _ _ _ _) | (with_reducible exact Has.new2 _ _ _ _ _) | (with_reducible refine Has.newAt ?_; (simp; done)) | (with_reducible apply Has.set) | (with_reducible apply Has.far; (case hn => first | assumption | (simp; done) | (intro e_; simp at e_; omega))) | (with_reducible apply Has.alloc) | (with_reducible apply Has.drewN) | (with_reducible apply Has.drew) | (with_reducible refine Has.keeps ?_ (by with_reducible assumption)))))); (first | (with_reducible assumption) | rfl | (simp; done) | fail))))
    ((go_at_call 37; refine (mstore_at (M.keeps (by ((repeat' (first | (with_reducible exact Keeps.refl _) | (with_reducible assumption) | (with_reducible refine Keeps.drewN ?_ _) | (with_reducible refine Keeps.drew ?_) | (with_reducible refine Keeps.alloc ?_ _) | (with_reducible refine Keeps.setCell ?_ ?_ _) | (with_reducible refine Keeps.trans ?_ (After.keeps _)) | (with_reducible refine Keeps.trans ?_ (by with_reducible assumption)) | go_size)); (first | done | fail)))) i _ _ HI.out HO.out hcc).mono ?_; rintro e w' ⟨rfl, hu2, M2⟩; have HG := (HG.keeps (by ((repeat' (first | (with_reducible exact Keeps.refl _) | (with_reducible assumption) | (with_reducible refine Keeps.drewN ?_ _) | (with_reducible refine Keeps.drew ?_) | (with_reducible refine Keeps.alloc ?_ _) | (with_reducible refine Keeps.setCell ?_ ?_ _) | (with_reducible refine Keeps.trans ?_ (After.keeps _)) | (with_reducible refine Keeps.trans ?_ (by with_reducible assumption)) | go_size)); (first | done | fail)))).upd hu2 (by simp only [List.mem_cons, List.not_mem_nil, or_false, not_or]; (repeat' apply And.intro) <;> assumption); have HE := (HE.keeps (by ((repeat' (first | (with_reducible exact Keeps.refl _) | (with_reducible assumption) | (with_reducible refine Keeps.drewN ?_ _) | (with_reducible refine Keeps.drew ?_) | (with_reducible refine Keeps.alloc ?_ _) | (with_reducible refine Keeps.setCell ?_ ?_ _) | (with_reducible refine Keeps.trans ?_ (After.keeps _)) | (with_reducible refine Keeps.trans ?_ (by with_reducible assumption)) | go_size)); (first | done | fail)))).upd hu2 (by simp only [List.mem_cons, List.not_mem_nil, or_false, not_or]; (repeat' apply And.intro) <;> assumption)))
  go_end0
  exact ⟨rfl, (Upd.drew (Upd.refl _ _)).trans (hu2.mono (fun x hx => by simp at hx ⊢; omega)), HG, M2⟩
theorem mkEnter_c (hE : Has w E (epochOf m a p n) 144) (h0 : 0 ≤ who) (h1 : who < n) :
    Calls Try.prog 67 #[.pointer (some ⟨E, 0, none⟩), .int .i64 who] w fun e w' => ∃ g, e = .returned (.tuple #[.pointer (some ⟨g, 0, none⟩), .int .i64 0]) ∧ Keeps w w' ∧ w.heap.size ≤ g ∧
      Has w' g (mach (bound 101 g) 0 [.pointer (some ⟨E, 0, none⟩), .int .i64 who, .int .i64 0]) 164 := by
  have FX_ := (hE).facts; simp only [blockFacts, listFacts, cellsAt, Nat.reduceAdd, and_true, true_and, and_assoc, epochOf] at FX_
  go_enter Try.func67, Try.ntmps67
  go_wp2
  go_ret2
  exact ⟨w.heap.size, rfl, by ((repeat' (first | (with_reducible exact Keeps.refl _) | (with_reducible assumption) | (with_reducible refine Keeps.drewN ?_ _) | (with_reducible refine Keeps.drew ?_) | (with_reducible refine Keeps.alloc ?_ _) | (with_reducible refine Keeps.setCell ?_ ?_ _) | (with_reducible refine Keeps.trans ?_ (After.keeps _)) | (with_reducible refine Keeps.trans ?_ (by with_reducible assumption)) | go_size)); (first | done | fail)), Nat.le_refl _, by (apply Has.congr; (focus ((repeat (first | (with_reducible assumption) | (with_reducible exact Has.new _ _ _) | (with_reducible exact Has.new1 _ _ _ _) | (with_reducible exact Has.new2 _ _ _ _ _) | (with_reducible refine Has.newAt ?_; (simp; done)) | (with_reducible apply Has.set) | (with_reducible apply Has.far; (case hn => first | assumption | (simp; done) | (intro e_; simp at e_; omega))) | (with_reducible apply Has.alloc) | (with_reducible apply Has.drewN) | (with_reducible apply Has.drew) | (with_reducible refine Has.keeps ?_ (by with_reducible assumption)))))); (first | rfl | (simp; done)))⟩
theorem mkEnter_no (hE : Has w E (epochOf m a p n) 144) (h : who < 0 ∨ n ≤ who) :
    Calls Try.prog 67 #[.pointer (some ⟨E, 0, none⟩), .int .i64 who] w fun e w' => e = .returned (.tuple #[.pointer none, .int .i64 1]) ∧ w = w' := by
  have FX_ := (hE).facts; simp only [blockFacts, listFacts, cellsAt, Nat.reduceAdd, and_true, true_and, and_assoc, epochOf] at FX_
  rcases h with h | h
  · go_enter Try.func67, Try.ntmps67
    go_wp2
    go_ret2
    exact ⟨rfl, rfl⟩
  · by_cases h2 : who < 0
    · go_enter Try.func67, Try.ntmps67
      go_wp2
      go_ret2
      exact ⟨rfl, rfl⟩
    · have h3 : 0 ≤ who := by omega
      have h4 : ¬ who < n := by omega
      go_enter Try.func67, Try.ntmps67
      go_wp2
      go_ret2
      exact ⟨rfl, rfl⟩
theorem mkLeave_c (hE : Has w E (epochOf m a p n) 144) (h0 : 0 ≤ who) (h1 : who < n) :
    Calls Try.prog 70 #[.pointer (some ⟨E, 0, none⟩), .int .i64 who] w fun e w' => ∃ g, e = .returned (.tuple #[.pointer (some ⟨g, 0, none⟩), .int .i64 0]) ∧ Keeps w w' ∧ w.heap.size ≤ g ∧
      Has w' g (mach (bound 102 g) 0 [.pointer (some ⟨E, 0, none⟩), .int .i64 who]) 166 := by
  have FX_ := (hE).facts; simp only [blockFacts, listFacts, cellsAt, Nat.reduceAdd, and_true, true_and, and_assoc, epochOf] at FX_
  go_enter Try.func70, Try.ntmps70
  go_wp2
  go_ret2
  exact ⟨w.heap.size, rfl, by ((repeat' (first | (with_reducible exact Keeps.refl _) | (with_reducible assumption) | (with_reducible refine Keeps.drewN ?_ _) | (with_reducible refine Keeps.drew ?_) | (with_reducible refine Keeps.alloc ?_ _) | (with_reducible refine Keeps.setCell ?_ ?_ _) | (with_reducible refine Keeps.trans ?_ (After.keeps _)) | (with_reducible refine Keeps.trans ?_ (by with_reducible assumption)) | go_size)); (first | done | fail)), Nat.le_refl _, by (apply Has.congr; (focus ((repeat (first | (with_reducible assumption) | (with_reducible exact Has.new _ _ _) | (with_reducible exact Has.new1 _ _ _ _) | (with_reducible exact Has.new2 _ _ _ _ _) | (with_reducible refine Has.newAt ?_; (simp; done)) | (with_reducible apply Has.set) | (with_reducible apply Has.far; (case hn => first | assumption | (simp; done) | (intro e_; simp at e_; omega))) | (with_reducible apply Has.alloc) | (with_reducible apply Has.drewN) | (with_reducible apply Has.drew) | (with_reducible refine Has.keeps ?_ (by with_reducible assumption)))))); (first | rfl | (simp; done)))⟩
theorem mkLeave_no (hE : Has w E (epochOf m a p n) 144) (h : who < 0 ∨ n ≤ who) :
    Calls Try.prog 70 #[.pointer (some ⟨E, 0, none⟩), .int .i64 who] w fun e w' => e = .returned (.tuple #[.pointer none, .int .i64 1]) ∧ w = w' := by
  have FX_ := (hE).facts; simp only [blockFacts, listFacts, cellsAt, Nat.reduceAdd, and_true, true_and, and_assoc, epochOf] at FX_
  rcases h with h | h
  · go_enter Try.func70, Try.ntmps70
    go_wp2
    go_ret2
    exact ⟨rfl, rfl⟩
  · by_cases h2 : who < 0
    · go_enter Try.func70, Try.ntmps70
      go_wp2
      go_ret2
      exact ⟨rfl, rfl⟩
    · have h3 : 0 ≤ who := by omega
      have h4 : ¬ who < n := by omega
      go_enter Try.func70, Try.ntmps70
      go_wp2
      go_ret2
      exact ⟨rfl, rfl⟩
/-- An Advance's cells. -/
abbrev advOf (nx : Value) (c : Int) (E : Nat) (was wk : Int) (won : Bool) : Array Value := mach nx c [.pointer (some ⟨E, 0, none⟩), .int .u64 was, .int .i64 wk, .bool won]
theorem advLoad_c (hg : Has w g (advOf .nilFunc c E was wk won) 140)
    (hE : Has w E (epochOf m a p n) 144) (M : Mem w m b N l cc x) (hv : l[a]? = some v) (hcc : cc < 4611686018427387903) :
    Calls Try.prog 81 #[.pointer (some ⟨g, 0, none⟩)] w fun e w' => e = .returned (.tuple #[]) ∧ Upd [g, m, b] w w' ∧
      Has w' g (advOf (bound 107 g) c E v wk won) 140 ∧ Mem w' m b N l (cc + 1) ⟨1, a, v, v, true⟩ := by
  have ne_ := Has.ne hg hE (by decide); have ne_' := Ne.symm ne_
  have ne_ := Has.ne hg M.hg (by decide); have ne_' := Ne.symm ne_
  have ne_ := Has.ne hg M.hb (by decide); have ne_' := Ne.symm ne_
  have ne_ := Has.ne hE M.hg (by decide); have ne_' := Ne.symm ne_
  have ne_ := Has.ne hE M.hb (by decide); have ne_' := Ne.symm ne_
  have HV := Lib.hid hv
  clear hv
  have FX_ := (hg).facts; simp only [blockFacts, listFacts, cellsAt, Nat.reduceAdd, and_true, true_and, and_assoc] at FX_
  have FX_ := (hE).facts; simp only [blockFacts, listFacts, cellsAt, Nat.reduceAdd, and_true, true_and, and_assoc, epochOf] at FX_
  have HG := hg
  have HE := hE
  go_enter Try.func81, Try.ntmps81
  go_wp2
  go_region_held3 (fun y => (y.cell? ⟨g, 5, none⟩ = some (.pointer (some ⟨E, 0, none⟩)) ∧ y.cell? ⟨E, 0, none⟩ = some (.pointer (some ⟨m, 0, none⟩))) ∧ y.cell? ⟨E, 1, none⟩ = some (.int .i64 a)) (((repeat' (with_reducible apply And.intro)) <;> (apply Has.cellv; (focus ((repeat (first | (with_reducible assumption) | (with_reducible exact Has.new _ _ _) | (with_reducible exact Has.new1 _ _ _ _) | (with_reducible exact Has.new2 _ _ _ _ _) | (with_reducible refine Has.newAt ?_; (simp; done)) | (with_reducible apply Has.set) | (with_reducible apply Has.far; (case hn => first | assumption | (simp; done) | (intro e_; simp at e_; omega))) | (with_reducible apply Has.alloc) | (with_reducible apply Has.drewN) | (with_reducible apply Has.drew) | (with_reducible refine Has.keeps ?_ (by with_reducible assumption)))))); (first | (with_reducible assumption) | rfl | (simp; done) | fail))))
    ((go_at_call 35; refine (mload_in (M.keeps (by ((repeat' (first | (with_reducible exact Keeps.refl _) | (with_reducible assumption) | (with_reducible refine Keeps.drewN ?_ _) | (with_reducible refine Keeps.drew ?_) | (with_reducible refine Keeps.alloc ?_ _) | (with_reducible refine Keeps.setCell ?_ ?_ _) | (with_reducible refine Keeps.trans ?_ (After.keeps _)) | (with_reducible refine Keeps.trans ?_ (by with_reducible assumption)) | go_size)); (first | done | fail)))) a HV.out hcc).mono ?_; rintro e w' ⟨rfl, hu2, M2⟩; have HG := (HG.keeps (by ((repeat' (first | (with_reducible exact Keeps.refl _) | (with_reducible assumption) | (with_reducible refine Keeps.drewN ?_ _) | (with_reducible refine Keeps.drew ?_) | (with_reducible refine Keeps.alloc ?_ _) | (with_reducible refine Keeps.setCell ?_ ?_ _) | (with_reducible refine Keeps.trans ?_ (After.keeps _)) | (with_reducible refine Keeps.trans ?_ (by with_reducible assumption)) | go_size)); (first | done | fail)))).upd hu2 (by simp only [List.mem_cons, List.not_mem_nil, or_false, not_or]; (repeat' apply And.intro) <;> assumption); have HE := (HE.keeps (by ((repeat' (first | (with_reducible exact Keeps.refl _) | (with_reducible assumption) | (with_reducible refine Keeps.drewN ?_ _) | (with_reducible refine Keeps.drew ?_) | (with_reducible refine Keeps.alloc ?_ _) | (with_reducible refine Keeps.setCell ?_ ?_ _) | (with_reducible refine Keeps.trans ?_ (After.keeps _)) | (with_reducible refine Keeps.trans ?_ (by with_reducible assumption)) | go_size)); (first | done | fail)))).upd hu2 (by simp only [List.mem_cons, List.not_mem_nil, or_false, not_or]; (repeat' apply And.intro) <;> assumption); have FX_ := (HG).facts; simp only [blockFacts, listFacts, cellsAt, Nat.reduceAdd, and_true, true_and, and_assoc] at FX_; have FX_ := (HE).facts; simp only [blockFacts, listFacts, cellsAt, Nat.reduceAdd, and_true, true_and, and_assoc, epochOf] at FX_))
  go_wp2_with (go_at_call 80; go_in)
  go_end0
  exact ⟨rfl, (Upd.drew (Upd.refl _ _)).trans ((hu2.mono (fun x hx => by simp at hx ⊢; omega)).trans (by (repeat (first | (with_reducible exact Upd.refl _ _) | (with_reducible assumption) | (with_reducible refine Upd.setCell ?_ (by first | (left; simp; done) | (right; go_size)) _) | (with_reducible refine Upd.alloc ?_ _) | (with_reducible refine Upd.drewN ?_ _) | (with_reducible refine Upd.drew ?_))))), by (apply Has.congr; (focus ((repeat (first | (with_reducible assumption) | (with_reducible exact Has.new _ _ _) | (with_reducible exact Has.new1 _ _ _ _) | (with_reducible exact Has.new2 _ _ _ _ _) | (with_reducible refine Has.newAt ?_; (simp; done)) | (with_reducible apply Has.set) | (with_reducible apply Has.far; (case hn => first | assumption | (simp; done) | (intro e_; simp at e_; omega))) | (with_reducible apply Has.alloc) | (with_reducible apply Has.drewN) | (with_reducible apply Has.drew) | (with_reducible refine Has.keeps ?_ (by with_reducible assumption)))))); (first | rfl | (simp; done))), (by repeat' (first | (with_reducible assumption) | (with_reducible apply Mem.alloc) | (with_reducible apply Mem.drewN) | (with_reducible apply Mem.drew) | (with_reducible apply Mem.far; (case h1 => first | assumption | (simp; done) | (intro e_; simp at e_; omega)); (case h2 => first | assumption | (simp; done) | (intro e_; simp at e_; omega)))))⟩
theorem mkAdv_c (hE : Has w E (epochOf m a p n) 144) :
    Calls Try.prog 48 #[.pointer (some ⟨E, 0, none⟩)] w fun e w' => ∃ g, e = .returned (.pointer (some ⟨g, 0, none⟩)) ∧ Keeps w w' ∧ w.heap.size ≤ g ∧
      Has w' g (advOf (bound 81 g) 0 E 0 0 false) 140 := by
  go_enter Try.func48, Try.ntmps48
  go_wp2
  go_ret
  exact ⟨w.heap.size, rfl, by ((repeat' (first | (with_reducible exact Keeps.refl _) | (with_reducible assumption) | (with_reducible refine Keeps.drewN ?_ _) | (with_reducible refine Keeps.drew ?_) | (with_reducible refine Keeps.alloc ?_ _) | (with_reducible refine Keeps.setCell ?_ ?_ _) | (with_reducible refine Keeps.trans ?_ (After.keeps _)) | (with_reducible refine Keeps.trans ?_ (by with_reducible assumption)) | go_size)); (first | done | fail)), Nat.le_refl _, by (apply Has.congr; (focus ((repeat (first | (with_reducible assumption) | (with_reducible exact Has.new _ _ _) | (with_reducible exact Has.new1 _ _ _ _) | (with_reducible exact Has.new2 _ _ _ _ _) | (with_reducible refine Has.newAt ?_; (simp; done)) | (with_reducible apply Has.set) | (with_reducible apply Has.far; (case hn => first | assumption | (simp; done) | (intro e_; simp at e_; omega))) | (with_reducible apply Has.alloc) | (with_reducible apply Has.drewN) | (with_reducible apply Has.drew) | (with_reducible refine Has.keeps ?_ (by with_reducible assumption)))))); (first | rfl | (simp; done)))⟩
theorem now_c (hE : Has w E (epochOf m a p n) 144) (M : Mem w m b N l cc x) (hv : l[a]? = some v) (v0 : 0 ≤ v) :
    Calls Try.prog 52 #[.pointer (some ⟨E, 0, none⟩)] w fun e w' => e = .returned (.int .i64 (cutI v)) ∧ Keeps w w' := by
  have HV := Lib.hid hv
  clear hv
  have FX_ := (hE).facts; simp only [blockFacts, listFacts, cellsAt, Nat.reduceAdd, and_true, true_and, and_assoc, epochOf] at FX_
  have HE := hE
  go_enter Try.func52, Try.ntmps52
  go_wp2
  go_region_held3 (fun y => (y.cell? ⟨E, 0, none⟩ = some (.pointer (some ⟨m, 0, none⟩))) ∧ y.cell? ⟨E, 1, none⟩ = some (.int .i64 a)) (((repeat' (with_reducible apply And.intro)) <;> (apply Has.cellv; (focus ((repeat (first | (with_reducible assumption) | (with_reducible exact Has.new _ _ _) | (with_reducible exact Has.new1 _ _ _ _) | (with_reducible exact Has.new2 _ _ _ _ _) | (with_reducible refine Has.newAt ?_; (simp; done)) | (with_reducible apply Has.set) | (with_reducible apply Has.far; (case hn => first | assumption | (simp; done) | (intro e_; simp at e_; omega))) | (with_reducible apply Has.alloc) | (with_reducible apply Has.drewN) | (with_reducible apply Has.drew) | (with_reducible refine Has.keeps ?_ (by with_reducible assumption)))))); (first | (with_reducible assumption) | rfl | (simp; done) | fail))))
    (first | (go_at_call 43; refine (mpeek_in (M.keeps (by ((repeat' (first | (with_reducible exact Keeps.refl _) | (with_reducible assumption) | (with_reducible refine Keeps.drewN ?_ _) | (with_reducible refine Keeps.drew ?_) | (with_reducible refine Keeps.alloc ?_ _) | (with_reducible refine Keeps.setCell ?_ ?_ _) | (with_reducible refine Keeps.trans ?_ (After.keeps _)) | (with_reducible refine Keeps.trans ?_ (by with_reducible assumption)) | go_size)); (first | done | fail)))) a HV.out).mono ?_; rintro e w' ⟨rfl, rfl⟩)
           | (go_at_call 84; refine (cut_c _ _ v0).mono ?_; rintro e w' ⟨rfl, rfl⟩))
  go_wp2
  go_ret
  exact ⟨rfl, by ((repeat' (first | (with_reducible exact Keeps.refl _) | (with_reducible assumption) | (with_reducible refine Keeps.drewN ?_ _) | (with_reducible refine Keeps.drew ?_) | (with_reducible refine Keeps.alloc ?_ _) | (with_reducible refine Keeps.setCell ?_ ?_ _) | (with_reducible refine Keeps.trans ?_ (After.keeps _)) | (with_reducible refine Keeps.trans ?_ (by with_reducible assumption)) | go_size)); (first | done | fail))⟩
theorem won_c {nx : Value} (hg : Has w g (advOf nx c E was wk won) 140) :
    Calls Try.prog 51 #[.pointer (some ⟨g, 0, none⟩)] w fun e w' => e = .returned (.bool won) ∧ w = w' := by
  have FX_ := (hg).facts; simp only [blockFacts, listFacts, cellsAt, Nat.reduceAdd, and_true, true_and, and_assoc] at FX_
  go_enter Try.func51, Try.ntmps51
  go_wp2
  go_ret
  exact ⟨rfl, rfl⟩
/-- Step and Done of each machine are run.Machine's. -/
theorem advStep_of {o : Bool} {Q : World → Prop} (h : Calls Try.prog 82 #[.pointer (some ⟨g, 0, none⟩)] w fun e w' => e = .returned (.bool o) ∧ Q w') :
    Calls Try.prog 49 #[.pointer (some ⟨g, 0, none⟩)] w fun e w' => e = .returned (.bool o) ∧ Q w' := by
  have H := Lib.hid h
  clear h
  go_enter Try.func49, Try.ntmps49
  go_wp2_with (go_at_call 82; refine (H.out).mono ?_; rintro e w' ⟨rfl, hq⟩)
  go_ret
  exact ⟨rfl, hq⟩
theorem advDone_of {o : Bool} {Q : World → Prop} (h : Calls Try.prog 83 #[.pointer (some ⟨g, 0, none⟩)] w fun e w' => e = .returned (.bool o) ∧ Q w') :
    Calls Try.prog 50 #[.pointer (some ⟨g, 0, none⟩)] w fun e w' => e = .returned (.bool o) ∧ Q w' := by
  have H := Lib.hid h
  clear h
  go_enter Try.func50, Try.ntmps50
  go_wp2_with (go_at_call 83; refine (H.out).mono ?_; rintro e w' ⟨rfl, hq⟩)
  go_ret
  exact ⟨rfl, hq⟩
end
end Go.Proofs.Ytkpagkopfdblgaa
