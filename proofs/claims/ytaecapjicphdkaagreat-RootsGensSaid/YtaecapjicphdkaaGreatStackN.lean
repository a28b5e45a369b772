/- stack.New, the constructors of Push and Pop, walked. -/
import Derived.Test.YtaecapjicphdkaaGreatStackQ2
import Derived.Test.YtaecapjicphdkaaGreatStackQ3
import Derived.Test.YtaecapjicphdkaaGreatStackP2
namespace Go.Proofs.YtaecapjicphdkaaGreat
set_option linter.unusedVariables false
set_option linter.unusedSimpArgs false
open Go Go.RowKit
set_option maxRecDepth 100000
attribute [local go_sem ↓] Go.wp_at_zero Go.wp_at_succ
set_option maxHeartbeats 1000000

def inB (a : Int) (N : Nat) : Bool := decide (0 ≤ a) && decide (a < N)
theorem inB_true {a : Int} {N : Nat} : inB a N = true ↔ 0 ≤ a ∧ a < N := by simp [inB]
theorem inB_yes {a : Int} {N : Nat} (h0 : 0 ≤ a) (h1 : a < N) : inB a N = true := inB_true.2 ⟨h0, h1⟩
theorem inB_no {a : Int} {N : Nat} (h : a < 0 ∨ N ≤ a) : inB a N = false := by
  unfold inB
  rcases h with h | h
  · rw [decide_eq_false (show ¬ 0 ≤ a by omega)]; rfl
  · rw [decide_eq_false (show ¬ a < (N : Int) by omega)]; simp
section
variable {w : World} {m b N : Nat} {l : List Int} {cc : Int} {x : Acc}
theorem stackCell_c (q : Nat) (a : Int) (hq : w.cell? ⟨q, 0, none⟩ = some (.pointer (some ⟨m, 0, none⟩))) (M : Mem w m b N l cc x) :
    Calls Tryz.prog 75 #[.int .i64 a, .pointer (some ⟨q, 0, none⟩)] w fun e w' => e = .returned (.bool (inB a N)) ∧ w = w' := by
  go_enter Tryz.func75, Tryz.ntmps75
  by_cases h : 0 ≤ a
  · go_wp2_with (go_at_call 37; refine (mlen M).mono ?_; rintro e w' ⟨rfl, rfl⟩)
    go_ret
    exact ⟨by unfold inB; rw [decide_eq_true h]; rfl, rfl⟩
  · go_wp2
    go_ret
    exact ⟨by unfold inB; rw [decide_eq_false (show ¬ 0 ≤ a by omega)]; rfl, rfl⟩
theorem stackNew_c (at_ pins workers : Int) (M : Mem w m b N l cc x) (h1 : 1 ≤ workers) (h2 : workers ≤ 4096) (h3 : 0 ≤ at_) (h4 : at_ < N) (h5 : 0 ≤ pins) (h6 : pins + workers ≤ N) (h7 : at_ < pins ∨ pins + workers ≤ at_) :
    Calls Tryz.prog 38 #[.pointer (some ⟨m, 0, none⟩), .int .i64 at_, .int .i64 pins, .int .i64 workers] w fun e w' => ∃ E, e = .returned (.tuple #[.pointer (some ⟨E, 0, none⟩), .int .i64 0]) ∧ Keeps w w' ∧ w.heap.size ≤ E ∧
      Has w' E (stackOf m at_ pins workers) 143 := by
  have hmf : ∀ (fn : Fn) (first cap : Array Value) (w : World), (Instr.makeFunc fn first cap).run Tryz.prog w = .ok (.func fn first cap) w := fun _ _ _ _ => rfl
  have hs := M.small
  have B1 := Lib.hid (inB_yes h3 h4)
  have B2 := Lib.hid (inB_yes h5 (show pins < N by omega))
  have B3 := Lib.hid (inB_yes (show 0 ≤ pins + workers - 1 by omega) (show pins + workers - 1 < N by omega))
  have u1 : pins + workers ≤ 9000000 := by omega
  have u2 : 1 ≤ pins + workers := by omega
  rcases h7 with h7 | h7
  · go_enter Tryz.func38, Tryz.ntmps38
    go_wp2_with (go_at_call 75; refine (stackCell_c _ _ (by simp) (M.alloc _)).mono ?_; rintro e w' ⟨rfl, rfl⟩; first | rw [B1.out] | rw [B2.out] | rw [B3.out])
    go_ret2
    exact ⟨w.heap.size + 1, rfl, by ((repeat' (first | (with_reducible exact Keeps.refl _) | (with_reducible assumption) | (with_reducible refine Keeps.drewN ?_ _) | (with_reducible refine Keeps.drew ?_) | (with_reducible refine Keeps.alloc ?_ _) | (with_reducible refine Keeps.setCell ?_ ?_ _) | (with_reducible refine Keeps.trans ?_ (After.keeps _)) | (with_reducible refine Keeps.trans ?_ (by with_reducible assumption)) | go_size)); (first | done | fail)), by omega, by (apply Has.congr; (focus ((repeat (first | (with_reducible assumption) | (with_reducible exact Has.new _ _ _) | (with_reducible exact Has.new1 _ _ _ _) | (with_reducible exact Has.new2 _ _ _ _ _) | (with_reducible refine Has.newAt ?_; (simp; done)) | (with_reducible apply Has.set) | (with_reducible apply Has.far; (case hn => first | assumption | (simp; done) | (intro e_; simp at e_; omega))) | (with_reducible apply Has.alloc) | (with_reducible apply Has.drewN) | (with_reducible apply Has.drew) | (with_reducible refine Has.keeps ?_ (by with_reducible assumption)))))); (first | rfl | (simp; done)))⟩
  · have h8 : ¬ at_ < pins + workers := by omega
    have h9 : pins ≤ at_ := by omega
    go_enter Tryz.func38, Tryz.ntmps38
    go_wp2_with (go_at_call 75; refine (stackCell_c _ _ (by simp) (M.alloc _)).mono ?_; rintro e w' ⟨rfl, rfl⟩; first | rw [B1.out] | rw [B2.out] | rw [B3.out])
    go_ret2
    exact ⟨w.heap.size + 1, rfl, by ((repeat' (first | (with_reducible exact Keeps.refl _) | (with_reducible assumption) | (with_reducible refine Keeps.drewN ?_ _) | (with_reducible refine Keeps.drew ?_) | (with_reducible refine Keeps.alloc ?_ _) | (with_reducible refine Keeps.setCell ?_ ?_ _) | (with_reducible refine Keeps.trans ?_ (After.keeps _)) | (with_reducible refine Keeps.trans ?_ (by with_reducible assumption)) | go_size)); (first | done | fail)), by omega, by (apply Has.congr; (focus ((repeat (first | (with_reducible assumption) | (with_reducible exact Has.new _ _ _) | (with_reducible exact Has.new1 _ _ _ _) | (with_reducible exact Has.new2 _ _ _ _ _) | (with_reducible refine Has.newAt ?_; (simp; done)) | (with_reducible apply Has.set) | (with_reducible apply Has.far; (case hn => first | assumption | (simp; done) | (intro e_; simp at e_; omega))) | (with_reducible apply Has.alloc) | (with_reducible apply Has.drewN) | (with_reducible apply Has.drew) | (with_reducible refine Has.keeps ?_ (by with_reducible assumption)))))); (first | rfl | (simp; done)))⟩
theorem stackNew_no (at_ pins workers : Int) (M : Mem w m b N l cc x) (h : workers < 1 ∨ 4096 < workers ∨ at_ < 0 ∨ N ≤ at_ ∨ pins < 0 ∨ N < pins + workers ∨ (pins ≤ at_ ∧ at_ < pins + workers)) :
    Calls Tryz.prog 38 #[.pointer (some ⟨m, 0, none⟩), .int .i64 at_, .int .i64 pins, .int .i64 workers] w fun e w' => e = .returned (.tuple #[.pointer none, .int .i64 1]) ∧ Keeps w w' := by
  have hmf : ∀ (fn : Fn) (first cap : Array Value) (w : World), (Instr.makeFunc fn first cap).run Tryz.prog w = .ok (.func fn first cap) w := fun _ _ _ _ => rfl
  have hs := M.small
  by_cases c1 : workers < 1
  · clear h
    go_enter Tryz.func38, Tryz.ntmps38
    go_wp2
    go_ret2
    exact ⟨rfl, by ((repeat' (first | (with_reducible exact Keeps.refl _) | (with_reducible assumption) | (with_reducible refine Keeps.drewN ?_ _) | (with_reducible refine Keeps.drew ?_) | (with_reducible refine Keeps.alloc ?_ _) | (with_reducible refine Keeps.setCell ?_ ?_ _) | (with_reducible refine Keeps.trans ?_ (After.keeps _)) | (with_reducible refine Keeps.trans ?_ (by with_reducible assumption)) | go_size)); (first | done | fail))⟩
  by_cases c2 : 4096 < workers
  · clear h
    go_enter Tryz.func38, Tryz.ntmps38
    go_wp2
    go_ret2
    exact ⟨rfl, by ((repeat' (first | (with_reducible exact Keeps.refl _) | (with_reducible assumption) | (with_reducible refine Keeps.drewN ?_ _) | (with_reducible refine Keeps.drew ?_) | (with_reducible refine Keeps.alloc ?_ _) | (with_reducible refine Keeps.setCell ?_ ?_ _) | (with_reducible refine Keeps.trans ?_ (After.keeps _)) | (with_reducible refine Keeps.trans ?_ (by with_reducible assumption)) | go_size)); (first | done | fail))⟩
  by_cases c3 : at_ < 0 ∨ N ≤ at_
  · have B1 := Lib.hid (inB_no c3)
    clear h c3
    go_enter Tryz.func38, Tryz.ntmps38
    go_wp2_with (go_at_call 75; refine (stackCell_c _ _ (by simp) (M.alloc _)).mono ?_; rintro e w' ⟨rfl, rfl⟩; first | rw [B1.out])
    go_ret2
    exact ⟨rfl, by ((repeat' (first | (with_reducible exact Keeps.refl _) | (with_reducible assumption) | (with_reducible refine Keeps.drewN ?_ _) | (with_reducible refine Keeps.drew ?_) | (with_reducible refine Keeps.alloc ?_ _) | (with_reducible refine Keeps.setCell ?_ ?_ _) | (with_reducible refine Keeps.trans ?_ (After.keeps _)) | (with_reducible refine Keeps.trans ?_ (by with_reducible assumption)) | go_size)); (first | done | fail))⟩
  have B1 := Lib.hid (inB_yes (a := at_) (N := N) (by omega) (by omega))
  by_cases c4 : pins < 0 ∨ N ≤ pins
  · have B2 := Lib.hid (inB_no c4)
    clear h c3 c4
    go_enter Tryz.func38, Tryz.ntmps38
    go_wp2_with (go_at_call 75; refine (stackCell_c _ _ (by simp) (M.alloc _)).mono ?_; rintro e w' ⟨rfl, rfl⟩; first | rw [B1.out] | rw [B2.out])
    go_ret2
    exact ⟨rfl, by ((repeat' (first | (with_reducible exact Keeps.refl _) | (with_reducible assumption) | (with_reducible refine Keeps.drewN ?_ _) | (with_reducible refine Keeps.drew ?_) | (with_reducible refine Keeps.alloc ?_ _) | (with_reducible refine Keeps.setCell ?_ ?_ _) | (with_reducible refine Keeps.trans ?_ (After.keeps _)) | (with_reducible refine Keeps.trans ?_ (by with_reducible assumption)) | go_size)); (first | done | fail))⟩
  have B2 := Lib.hid (inB_yes (a := pins) (N := N) (by omega) (by omega))
  have u0 : pins + workers ≤ 18000000 := by omega
  have u1 : 1 ≤ pins + workers := by omega
  by_cases c5 : N < pins + workers
  · have B3 := Lib.hid (inB_no (a := pins + workers - 1) (N := N) (by omega))
    clear h c3 c4 c5
    go_enter Tryz.func38, Tryz.ntmps38
    go_wp2_with (go_at_call 75; refine (stackCell_c _ _ (by simp) (M.alloc _)).mono ?_; rintro e w' ⟨rfl, rfl⟩; first | rw [B1.out] | rw [B2.out] | rw [B3.out])
    go_ret2
    exact ⟨rfl, by ((repeat' (first | (with_reducible exact Keeps.refl _) | (with_reducible assumption) | (with_reducible refine Keeps.drewN ?_ _) | (with_reducible refine Keeps.drew ?_) | (with_reducible refine Keeps.alloc ?_ _) | (with_reducible refine Keeps.setCell ?_ ?_ _) | (with_reducible refine Keeps.trans ?_ (After.keeps _)) | (with_reducible refine Keeps.trans ?_ (by with_reducible assumption)) | go_size)); (first | done | fail))⟩
  have B3 := Lib.hid (inB_yes (a := pins + workers - 1) (N := N) (by omega) (by omega))
  have c6 : pins ≤ at_ := by omega
  have c7 : at_ < pins + workers := by omega
  clear h c3 c4 c5
  go_enter Tryz.func38, Tryz.ntmps38
  go_wp2_with (go_at_call 75; refine (stackCell_c _ _ (by simp) (M.alloc _)).mono ?_; rintro e w' ⟨rfl, rfl⟩; first | rw [B1.out] | rw [B2.out] | rw [B3.out])
  go_ret2
  exact ⟨rfl, by ((repeat' (first | (with_reducible exact Keeps.refl _) | (with_reducible assumption) | (with_reducible refine Keeps.drewN ?_ _) | (with_reducible refine Keeps.drew ?_) | (with_reducible refine Keeps.alloc ?_ _) | (with_reducible refine Keeps.setCell ?_ ?_ _) | (with_reducible refine Keeps.trans ?_ (After.keeps _)) | (with_reducible refine Keeps.trans ?_ (by with_reducible assumption)) | go_size)); (first | done | fail))⟩
end
end Go.Proofs.YtaecapjicphdkaaGreat
