/- What package chain does: Chains, Set, Walk, each function walked once. -/
import Derived.Test.YtcohhfndaogikaaStackH
import Derived.Test.YtcohhfndaogikaaStackTab
import Derived.Test.YtcohhfndaogikaaAppI
import Derived.Test.YtcohhfndaogikaaLayC
import Derived.LoopTactic
namespace Go.Proofs.Ytcohhfndaogikaa
set_option linter.unusedVariables false
set_option linter.unusedSimpArgs false
open Go Go.RowKit
set_option maxRecDepth 100000
attribute [local go_sem ↓] Go.wp_at_zero Go.wp_at_succ
set_option maxHeartbeats 1000000

/-- A configuration. -/
abbrev cfgV (p k d s c b : Int) : Value := .agg #[.int .i64 p, .int .i64 k, .int .i64 d, .int .i64 s, .int .i64 c, .int .i64 b]
abbrev cfgA (p k d s c b : Int) : Array Value := #[.int .i64 p, .int .i64 k, .int .i64 d, .int .i64 s, .int .i64 c, .int .i64 b]
def chainOf (m : Nat) (p k d s c b : Int) (P : Nat) : Array Value := #[.pointer (some ⟨m, 0, none⟩), .int .i64 p, .int .i64 k, .int .i64 d, .int .i64 s, .int .i64 c, .int .i64 b, .pointer (some ⟨P, 0, none⟩)]
theorem link_in (p k d s c b n : Int) (w : World) (h : mayB p k d s c b = true) (n0 : 0 ≤ n) (n1 : n < k) :
    Calls Try.prog 21 #[cfgV p k d s c b, .int .i64 n] w fun e w' => e = .returned (.int .i64 (3 + p + s + s + n)) ∧ Keeps w w' := by
  have H := Lib.hid h
  clear h
  go_enter Try.func21, Try.ntmps21
  go_wp2_with (go_at_call 68; refine (cell6_t _ _ _ _ _ _ _ _ H.out n0 n1).mono ?_; rintro e w' ⟨rfl, hk5⟩)
  go_ret
  exact ⟨rfl, by ((repeat' (first | (with_reducible exact Keeps.refl _) | (with_reducible assumption) | (with_reducible refine Keeps.drewN ?_ _) | (with_reducible refine Keeps.drew ?_) | (with_reducible refine Keeps.alloc ?_ _) | (with_reducible refine Keeps.setCell ?_ ?_ _) | (with_reducible refine Keeps.trans ?_ (After.keeps _)) | (with_reducible refine Keeps.trans ?_ (by with_reducible assumption)) | go_size)); (first | done | fail))⟩
theorem lenI_eq {p k d s c b : Int} (h : mayB p k d s c b = true) : lenI p k d s c b = 3 + p + 2 * s + k + k * d ∧ 15 ≤ lenI p k d s c b ∧ lenI p k d s c b ≤ 8388608 := by
  obtain ⟨⟨p0, p1⟩, ⟨k0, k1⟩, ⟨d0, d1⟩, -, ⟨s0, s1⟩, ⟨c0, c1⟩, b0, b1⟩ := mayB_true.1 h
  obtain ⟨q0, q1⟩ := prod_bd k0 k1 d0 d1
  unfold lenI
  rw [if_pos h]
  omega
section
variable {w : World} {m bb N X P lk K : Nat} {l : List Int} {cc : Int} {x : Acc} {p d s c b : Int}
theorem chainNew_c (M : Mem w m bb N l cc x) (hm : mayB p K d s c b = true) (hN : lenI p K d s c b ≤ N) (hlk : (lk : Int) = 3 + p + s + s) :
    Calls Try.prog 26 #[.pointer (some ⟨m, 0, none⟩), cfgV p K d s c b] w fun e w' => ∃ X P, e = .returned (.tuple #[.pointer (some ⟨X, 0, none⟩), .int .i64 0]) ∧ Keeps w w' ∧ w.heap.size ≤ X ∧ w.heap.size ≤ P ∧
      Has w' X (chainOf m p K d s c b P) 114 ∧ Has w' P (stackOf m (0 : Nat) lk K) 138 := by
  have hmb := mayB_true.1 hm
  have hle := lenI_eq hm
  obtain ⟨⟨p0, p1⟩, ⟨k0, k1⟩, ⟨d0, d1⟩, -, ⟨s0, s1⟩, ⟨c0, c1⟩, b0, b1⟩ := hmb
  obtain ⟨q0, q1⟩ := prod_bd k0 k1 d0 d1
  have HM := Lib.hid hm
  obtain ⟨q, hq⟩ : ∃ q, lenI p K d s c b = q := ⟨_, rfl⟩
  have HQ := Lib.hid hq
  rw [hq] at hN hle
  have hlt : ¬ (N : Int) < q := by omega
  have HLK : Hid (3 + p + s + s + 0 = (lk : Int)) := Lib.hid (by omega)
  have l1 : (lk : Int) + K ≤ N := by omega
  have l2 : 3 ≤ lk := by omega
  have kk1 : (1 : Int) ≤ K := k0
  clear hm hq hlk hle
  go_enter Try.func26, Try.ntmps26
  go_wp2
  refine wp_named' (fun W1 hW => ?_)
  have HK : Keeps w W1 := by rw [hW]; ((repeat' (first | (with_reducible exact Keeps.refl _) | (with_reducible assumption) | (with_reducible refine Keeps.drewN ?_ _) | (with_reducible refine Keeps.drew ?_) | (with_reducible refine Keeps.alloc ?_ _) | (with_reducible refine Keeps.setCell ?_ ?_ _) | (with_reducible refine Keeps.trans ?_ (After.keeps _)) | (with_reducible refine Keeps.trans ?_ (by with_reducible assumption)) | go_size)); (first | done | fail))
  have HC : Has W1 w.heap.size (cfgA p K d s c b) 25 := by rw [hW]; (apply Has.congr; (focus ((repeat (first | (with_reducible assumption) | (with_reducible exact Has.new _ _ _) | (with_reducible exact Has.new1 _ _ _ _) | (with_reducible exact Has.new2 _ _ _ _ _) | (with_reducible refine Has.newAt ?_; (simp; done)) | (with_reducible apply Has.set) | (with_reducible apply Has.far; (case hn => first | assumption | (simp; done) | (intro e_; simp at e_; omega))) | (with_reducible apply Has.alloc) | (with_reducible apply Has.drewN) | (with_reducible apply Has.drew) | (with_reducible refine Has.keeps ?_ (by with_reducible assumption)))))); (first | rfl | (simp; done)))
  clear hW
  go_region_held3 (fun y => (((y.cell? ⟨w.heap.size, 0, none⟩ = some (.int .i64 p) ∧ y.cell? ⟨w.heap.size, 1, none⟩ = some (.int .i64 K)) ∧ y.cell? ⟨w.heap.size, 2, none⟩ = some (.int .i64 d)) ∧ y.cell? ⟨w.heap.size, 3, none⟩ = some (.int .i64 s)) ∧ y.cell? ⟨w.heap.size, 4, none⟩ = some (.int .i64 c) ∧ y.cell? ⟨w.heap.size, 5, none⟩ = some (.int .i64 b)) (((repeat' (with_reducible apply And.intro)) <;> (apply Has.cellv; (focus ((repeat (first | (with_reducible assumption) | (with_reducible exact Has.new _ _ _) | (with_reducible exact Has.new1 _ _ _ _) | (with_reducible exact Has.new2 _ _ _ _ _) | (with_reducible refine Has.newAt ?_; (simp; done)) | (with_reducible apply Has.set) | (with_reducible apply Has.far; (case hn => first | assumption | (simp; done) | (intro e_; simp at e_; omega))) | (with_reducible apply Has.alloc) | (with_reducible apply Has.drewN) | (with_reducible apply Has.drew) | (with_reducible refine Has.keeps ?_ (by with_reducible assumption)))))); (first | (with_reducible assumption) | rfl | (simp; done) | fail))))
    (first
      | (go_at_call 69; refine (may_c _ _ _ _ _ _ _).mono ?_; rintro e w' ⟨rfl, hk5⟩; rw [HM.out]; have HC := (HC.keeps (by ((repeat' (first | (with_reducible exact Keeps.refl _) | (with_reducible assumption) | (with_reducible refine Keeps.drewN ?_ _) | (with_reducible refine Keeps.drew ?_) | (with_reducible refine Keeps.alloc ?_ _) | (with_reducible refine Keeps.setCell ?_ ?_ _) | (with_reducible refine Keeps.trans ?_ (After.keeps _)) | (with_reducible refine Keeps.trans ?_ (by with_reducible assumption)) | go_size)); (first | done | fail)))).keeps hk5; have HK := (HK.drew).trans hk5)
      | (go_at_call 71; refine (mlen (M.keeps (by ((repeat' (first | (with_reducible exact Keeps.refl _) | (with_reducible assumption) | (with_reducible refine Keeps.drewN ?_ _) | (with_reducible refine Keeps.drew ?_) | (with_reducible refine Keeps.alloc ?_ _) | (with_reducible refine Keeps.setCell ?_ ?_ _) | (with_reducible refine Keeps.trans ?_ (After.keeps _)) | (with_reducible refine Keeps.trans ?_ (by with_reducible assumption)) | go_size)); (first | done | fail))))).mono ?_; rintro e w' ⟨rfl, rfl⟩)
      | (go_at_call 25; refine (len_c _ _ _ _ _ _ _).mono ?_; rintro e w' ⟨rfl, hk6⟩; rw [HQ.out]; have HC := HC.keeps hk6; have HK := HK.trans hk6))
  go_wp2
  go_region_held3 (fun y => (((y.cell? ⟨w.heap.size, 0, none⟩ = some (.int .i64 p) ∧ y.cell? ⟨w.heap.size, 1, none⟩ = some (.int .i64 K)) ∧ y.cell? ⟨w.heap.size, 2, none⟩ = some (.int .i64 d)) ∧ y.cell? ⟨w.heap.size, 3, none⟩ = some (.int .i64 s)) ∧ y.cell? ⟨w.heap.size, 4, none⟩ = some (.int .i64 c) ∧ y.cell? ⟨w.heap.size, 5, none⟩ = some (.int .i64 b)) (((repeat' (with_reducible apply And.intro)) <;> (apply Has.cellv; (focus ((repeat (first | (with_reducible assumption) | (with_reducible exact Has.new _ _ _) | (with_reducible exact Has.new1 _ _ _ _) | (with_reducible exact Has.new2 _ _ _ _ _) | (with_reducible refine Has.newAt ?_; (simp; done)) | (with_reducible apply Has.set) | (with_reducible apply Has.far; (case hn => first | assumption | (simp; done) | (intro e_; simp at e_; omega))) | (with_reducible apply Has.alloc) | (with_reducible apply Has.drewN) | (with_reducible apply Has.drew) | (with_reducible refine Has.keeps ?_ (by with_reducible assumption)))))); (first | (with_reducible assumption) | rfl | (simp; done) | fail))))
    (first
      | (go_at_call 21; refine (link_in _ _ _ _ _ _ _ _ HM.out (by omega) (by omega)).mono ?_; rintro e w' ⟨rfl, hk7⟩; rw [HLK.out]; have HC := (HC.keeps (by ((repeat' (first | (with_reducible exact Keeps.refl _) | (with_reducible assumption) | (with_reducible refine Keeps.drewN ?_ _) | (with_reducible refine Keeps.drew ?_) | (with_reducible refine Keeps.alloc ?_ _) | (with_reducible refine Keeps.setCell ?_ ?_ _) | (with_reducible refine Keeps.trans ?_ (After.keeps _)) | (with_reducible refine Keeps.trans ?_ (by with_reducible assumption)) | go_size)); (first | done | fail)))).keeps hk7; have HK := (HK.drew).trans hk7)
      | (go_at_call 40; refine (stackNew_c _ _ _ (M.keeps HK) (by omega) (by omega) (by omega) (by omega) (by omega) (by omega) (by omega)).mono ?_; rintro e w' ⟨P, rfl, hk8, hP, HP⟩; have HC := HC.keeps hk8; have HK1 := HK.size; have HK := HK.trans hk8))
  have FX_ := (HC).facts; simp only [blockFacts, listFacts, cellsAt, Nat.reduceAdd, and_true, true_and, and_assoc] at FX_
  go_wp2
  go_ret2
  exact ⟨w'.heap.size, P, rfl, by ((repeat' (first | (with_reducible exact Keeps.refl _) | (with_reducible assumption) | (with_reducible refine Keeps.drewN ?_ _) | (with_reducible refine Keeps.drew ?_) | (with_reducible refine Keeps.alloc ?_ _) | (with_reducible refine Keeps.setCell ?_ ?_ _) | (with_reducible refine Keeps.trans ?_ (After.keeps _)) | (with_reducible refine Keeps.trans ?_ (by with_reducible assumption)) | go_size)); (first | done | fail)), HK.size, by omega, by (apply Has.congr; (focus ((repeat (first | (with_reducible assumption) | (with_reducible exact Has.new _ _ _) | (with_reducible exact Has.new1 _ _ _ _) | (with_reducible exact Has.new2 _ _ _ _ _) | (with_reducible refine Has.newAt ?_; (simp; done)) | (with_reducible apply Has.set) | (with_reducible apply Has.far; (case hn => first | assumption | (simp; done) | (intro e_; simp at e_; omega))) | (with_reducible apply Has.alloc) | (with_reducible apply Has.drewN) | (with_reducible apply Has.drew) | (with_reducible refine Has.keeps ?_ (by with_reducible assumption)))))); (first | rfl | (simp; done))), by (apply Has.congr; (focus ((repeat (first | (with_reducible assumption) | (with_reducible exact Has.new _ _ _) | (with_reducible exact Has.new1 _ _ _ _) | (with_reducible exact Has.new2 _ _ _ _ _) | (with_reducible refine Has.newAt ?_; (simp; done)) | (with_reducible apply Has.set) | (with_reducible apply Has.far; (case hn => first | assumption | (simp; done) | (intro e_; simp at e_; omega))) | (with_reducible apply Has.alloc) | (with_reducible apply Has.drewN) | (with_reducible apply Has.drew) | (with_reducible refine Has.keeps ?_ (by with_reducible assumption)))))); (first | rfl | (simp; done)))⟩
end
end Go.Proofs.Ytcohhfndaogikaa
