/- What package lay computes, from its parts on: each function walked once. -/
import Derived.Test.YtaecapjicphdkaaGreatMg20
namespace Go.Proofs.YtaecapjicphdkaaGreat
set_option linter.unusedVariables false
set_option linter.unusedSimpArgs false
open Go Go.RowKit
set_option maxRecDepth 100000

theorem lwithin_t (n a b : Int) (w : World) (h1 : a ≤ n) (h2 : n ≤ b) : Calls Tryz.prog 74 #[.int .i64 n, .int .i64 a, .int .i64 b] w fun e w' => e = .returned (.bool true) ∧ w = w' := by
  have h := lwithin_c n a b w
  rwa [withinB_true.2 ⟨h1, h2⟩] at h
theorem lwithin_f (n a b : Int) (w : World) (h1 : n < a ∨ b < n) : Calls Tryz.prog 74 #[.int .i64 n, .int .i64 a, .int .i64 b] w fun e w' => e = .returned (.bool false) ∧ w = w' := by
  have h := lwithin_c n a b w
  rwa [show withinB n a b = false from by rw [← Bool.not_eq_true, withinB_true]; omega] at h
theorem ret_int {k : IntKind} {a b : Int} (h : a = b) : Ending.returned (.int k a) = .returned (.int k b) := by rw [h]

/-- A thing's cell. -/
def atI (m : Bool) (f n i : Int) : Int := if m = true ∧ 0 ≤ i ∧ i < n then f + i else -1
theorem atI_t {m : Bool} {f n i : Int} (hm : m = true) (h0 : 0 ≤ i) (h1 : i < n) : atI m f n i = f + i := if_pos ⟨hm, h0, h1⟩
theorem atI_f {m : Bool} {f n i : Int} (h : m = false ∨ i < 0 ∨ n ≤ i) : atI m f n i = -1 := if_neg (by rintro ⟨a, b, c⟩; rw [a] at h; rcases h with h | h | h <;> first | cases h | omega)

set_option maxHeartbeats 1000000 in
theorem cell3_t (p k d s c b n : Int) (w : World) (h : mayB p k d s c b = true) (n0 : 0 ≤ n) (n1 : n < p) : Calls Tryz.prog 76 #[.agg #[.int .i64 p, .int .i64 k, .int .i64 d, .int .i64 s, .int .i64 c, .int .i64 b], .int .i64 3, .int .i64 n] w fun e w' => e = .returned (.int .i64 (3 + n)) ∧ Keeps w w' := by
  obtain ⟨⟨p0, p1⟩, ⟨k0, k1⟩, ⟨d0, d1⟩, -, ⟨s0, s1⟩, ⟨c0, c1⟩, b0, b1⟩ := mayB_true.1 h
  obtain ⟨q0, q1⟩ := prod_bd k0 k1 d0 d1
  have HM := Lib.hid h
  clear h
  have I0 : ∀ w, (Instr.index 96 (.agg #[.int .i64 3, .int .i64 3, .int .i64 p, .int .i64 4, .int .i64 (3 + p), .int .i64 s, .int .i64 5, .int .i64 (3 + p + s), .int .i64 s, .int .i64 6, .int .i64 (3 + p + s + s), .int .i64 k, .int .i64 7, .int .i64 (3 + p + s + s + k), .int .i64 (k * d)]) (.int .i64 0)).run Tryz.prog w = .ok (.agg #[.int .i64 3, .int .i64 3, .int .i64 p]) w := fun _ => by kernel_rfl
  have I1 : ∀ w, (Instr.index 96 (.agg #[.int .i64 3, .int .i64 3, .int .i64 p, .int .i64 4, .int .i64 (3 + p), .int .i64 s, .int .i64 5, .int .i64 (3 + p + s), .int .i64 s, .int .i64 6, .int .i64 (3 + p + s + s), .int .i64 k, .int .i64 7, .int .i64 (3 + p + s + s + k), .int .i64 (k * d)]) (.int .i64 1)).run Tryz.prog w = .ok (.agg #[.int .i64 4, .int .i64 (3 + p), .int .i64 s]) w := fun _ => by kernel_rfl
  have I2 : ∀ w, (Instr.index 96 (.agg #[.int .i64 3, .int .i64 3, .int .i64 p, .int .i64 4, .int .i64 (3 + p), .int .i64 s, .int .i64 5, .int .i64 (3 + p + s), .int .i64 s, .int .i64 6, .int .i64 (3 + p + s + s), .int .i64 k, .int .i64 7, .int .i64 (3 + p + s + s + k), .int .i64 (k * d)]) (.int .i64 2)).run Tryz.prog w = .ok (.agg #[.int .i64 5, .int .i64 (3 + p + s), .int .i64 s]) w := fun _ => by kernel_rfl
  have I3 : ∀ w, (Instr.index 96 (.agg #[.int .i64 3, .int .i64 3, .int .i64 p, .int .i64 4, .int .i64 (3 + p), .int .i64 s, .int .i64 5, .int .i64 (3 + p + s), .int .i64 s, .int .i64 6, .int .i64 (3 + p + s + s), .int .i64 k, .int .i64 7, .int .i64 (3 + p + s + s + k), .int .i64 (k * d)]) (.int .i64 3)).run Tryz.prog w = .ok (.agg #[.int .i64 6, .int .i64 (3 + p + s + s), .int .i64 k]) w := fun _ => by kernel_rfl
  have I4 : ∀ w, (Instr.index 96 (.agg #[.int .i64 3, .int .i64 3, .int .i64 p, .int .i64 4, .int .i64 (3 + p), .int .i64 s, .int .i64 5, .int .i64 (3 + p + s), .int .i64 s, .int .i64 6, .int .i64 (3 + p + s + s), .int .i64 k, .int .i64 7, .int .i64 (3 + p + s + s + k), .int .i64 (k * d)]) (.int .i64 4)).run Tryz.prog w = .ok (.agg #[.int .i64 7, .int .i64 (3 + p + s + s + k), .int .i64 (k * d)]) w := fun _ => by kernel_rfl
  have Z := Live.nil w.heap.size
  go_enter Tryz.func76, Tryz.ntmps76
  go_wp2_with (first
    | (go_at_call 35; refine (may_c _ _ _ _ _ _ _).mono ?_; rintro e w' ⟨rfl, h1⟩; rw [HM.out]; have hc_ := fun (b o : Nat) (hb : b < _) => (h1).cell (b := b) (o := o) hb; have hf_ := fun (b o : Nat) (hb : b < _) => (h1).frozen (b := b) (o := o) hb; have hs_ := (h1).size; (try simp only [World.size_alloc, World.heap_drewN, World.size_drew, World.size_setCell] at hs_); (first | (with_reducible replace Z := Live.step0 Z hs_) | (with_reducible replace Z := Live.step1 Z hs_) | (with_reducible replace Z := Live.step2 Z hs_) | (with_reducible replace Z := Live.step3 Z hs_) | (with_reducible replace Z := Live.step4 Z hs_)); have z_ := Z; simp only [Live, List.forall_mem_cons, List.not_mem_nil, false_imp_iff, implies_true, and_true] at z_)
    | (go_at_call 36; refine (parts_c _ _ _ _ _ _ _ HM.out).mono ?_; rintro e w' ⟨rfl, h2⟩; have hc_ := fun (b o : Nat) (hb : b < _) => (h2).cell (b := b) (o := o) hb; have hf_ := fun (b o : Nat) (hb : b < _) => (h2).frozen (b := b) (o := o) hb; have hs_ := (h2).size; (try simp only [World.size_alloc, World.heap_drewN, World.size_drew, World.size_setCell] at hs_); (first | (with_reducible replace Z := Live.step0 Z hs_) | (with_reducible replace Z := Live.step1 Z hs_) | (with_reducible replace Z := Live.step2 Z hs_) | (with_reducible replace Z := Live.step3 Z hs_) | (with_reducible replace Z := Live.step4 Z hs_)); have z_ := Z; simp only [Live, List.forall_mem_cons, List.not_mem_nil, false_imp_iff, implies_true, and_true] at z_))
  refine wp_loop_rounds 6 ?_
  repeat (rw [rounds_succ]; go_wp2_with (first | (go_at_call 74; refine (lwithin_t _ _ _ _ ?_ ?_).mono ?_; omega; omega; rintro e w' ⟨rfl, rfl⟩) | (go_at_call 74; refine (lwithin_f _ _ _ _ ?_).mono ?_; omega; rintro e w' ⟨rfl, rfl⟩)))
  go_ret
  exact ⟨rfl, by ((repeat' (first | (with_reducible exact Keeps.refl _) | (with_reducible assumption) | (with_reducible refine Keeps.drewN ?_ _) | (with_reducible refine Keeps.drew ?_) | (with_reducible refine Keeps.alloc ?_ _) | (with_reducible refine Keeps.setCell ?_ ?_ _) | (with_reducible refine Keeps.trans ?_ (After.keeps _)) | (with_reducible refine Keeps.trans ?_ (by with_reducible assumption)) | go_size)); (first | done | fail))⟩

set_option maxHeartbeats 1000000 in
theorem cell3_f (p k d s c b n : Int) (w : World) (h : mayB p k d s c b = true) (hn : n < 0 ∨ p ≤ n) : Calls Tryz.prog 76 #[.agg #[.int .i64 p, .int .i64 k, .int .i64 d, .int .i64 s, .int .i64 c, .int .i64 b], .int .i64 3, .int .i64 n] w fun e w' => e = .returned (.int .i64 (-1)) ∧ Keeps w w' := by
  obtain ⟨⟨p0, p1⟩, ⟨k0, k1⟩, ⟨d0, d1⟩, -, ⟨s0, s1⟩, ⟨c0, c1⟩, b0, b1⟩ := mayB_true.1 h
  obtain ⟨q0, q1⟩ := prod_bd k0 k1 d0 d1
  have HM := Lib.hid h
  clear h
  have I0 : ∀ w, (Instr.index 96 (.agg #[.int .i64 3, .int .i64 3, .int .i64 p, .int .i64 4, .int .i64 (3 + p), .int .i64 s, .int .i64 5, .int .i64 (3 + p + s), .int .i64 s, .int .i64 6, .int .i64 (3 + p + s + s), .int .i64 k, .int .i64 7, .int .i64 (3 + p + s + s + k), .int .i64 (k * d)]) (.int .i64 0)).run Tryz.prog w = .ok (.agg #[.int .i64 3, .int .i64 3, .int .i64 p]) w := fun _ => by kernel_rfl
  have I1 : ∀ w, (Instr.index 96 (.agg #[.int .i64 3, .int .i64 3, .int .i64 p, .int .i64 4, .int .i64 (3 + p), .int .i64 s, .int .i64 5, .int .i64 (3 + p + s), .int .i64 s, .int .i64 6, .int .i64 (3 + p + s + s), .int .i64 k, .int .i64 7, .int .i64 (3 + p + s + s + k), .int .i64 (k * d)]) (.int .i64 1)).run Tryz.prog w = .ok (.agg #[.int .i64 4, .int .i64 (3 + p), .int .i64 s]) w := fun _ => by kernel_rfl
  have I2 : ∀ w, (Instr.index 96 (.agg #[.int .i64 3, .int .i64 3, .int .i64 p, .int .i64 4, .int .i64 (3 + p), .int .i64 s, .int .i64 5, .int .i64 (3 + p + s), .int .i64 s, .int .i64 6, .int .i64 (3 + p + s + s), .int .i64 k, .int .i64 7, .int .i64 (3 + p + s + s + k), .int .i64 (k * d)]) (.int .i64 2)).run Tryz.prog w = .ok (.agg #[.int .i64 5, .int .i64 (3 + p + s), .int .i64 s]) w := fun _ => by kernel_rfl
  have I3 : ∀ w, (Instr.index 96 (.agg #[.int .i64 3, .int .i64 3, .int .i64 p, .int .i64 4, .int .i64 (3 + p), .int .i64 s, .int .i64 5, .int .i64 (3 + p + s), .int .i64 s, .int .i64 6, .int .i64 (3 + p + s + s), .int .i64 k, .int .i64 7, .int .i64 (3 + p + s + s + k), .int .i64 (k * d)]) (.int .i64 3)).run Tryz.prog w = .ok (.agg #[.int .i64 6, .int .i64 (3 + p + s + s), .int .i64 k]) w := fun _ => by kernel_rfl
  have I4 : ∀ w, (Instr.index 96 (.agg #[.int .i64 3, .int .i64 3, .int .i64 p, .int .i64 4, .int .i64 (3 + p), .int .i64 s, .int .i64 5, .int .i64 (3 + p + s), .int .i64 s, .int .i64 6, .int .i64 (3 + p + s + s), .int .i64 k, .int .i64 7, .int .i64 (3 + p + s + s + k), .int .i64 (k * d)]) (.int .i64 4)).run Tryz.prog w = .ok (.agg #[.int .i64 7, .int .i64 (3 + p + s + s + k), .int .i64 (k * d)]) w := fun _ => by kernel_rfl
  have Z := Live.nil w.heap.size
  go_enter Tryz.func76, Tryz.ntmps76
  go_wp2_with (first
    | (go_at_call 35; refine (may_c _ _ _ _ _ _ _).mono ?_; rintro e w' ⟨rfl, h1⟩; rw [HM.out]; have hc_ := fun (b o : Nat) (hb : b < _) => (h1).cell (b := b) (o := o) hb; have hf_ := fun (b o : Nat) (hb : b < _) => (h1).frozen (b := b) (o := o) hb; have hs_ := (h1).size; (try simp only [World.size_alloc, World.heap_drewN, World.size_drew, World.size_setCell] at hs_); (first | (with_reducible replace Z := Live.step0 Z hs_) | (with_reducible replace Z := Live.step1 Z hs_) | (with_reducible replace Z := Live.step2 Z hs_) | (with_reducible replace Z := Live.step3 Z hs_) | (with_reducible replace Z := Live.step4 Z hs_)); have z_ := Z; simp only [Live, List.forall_mem_cons, List.not_mem_nil, false_imp_iff, implies_true, and_true] at z_)
    | (go_at_call 36; refine (parts_c _ _ _ _ _ _ _ HM.out).mono ?_; rintro e w' ⟨rfl, h2⟩; have hc_ := fun (b o : Nat) (hb : b < _) => (h2).cell (b := b) (o := o) hb; have hf_ := fun (b o : Nat) (hb : b < _) => (h2).frozen (b := b) (o := o) hb; have hs_ := (h2).size; (try simp only [World.size_alloc, World.heap_drewN, World.size_drew, World.size_setCell] at hs_); (first | (with_reducible replace Z := Live.step0 Z hs_) | (with_reducible replace Z := Live.step1 Z hs_) | (with_reducible replace Z := Live.step2 Z hs_) | (with_reducible replace Z := Live.step3 Z hs_) | (with_reducible replace Z := Live.step4 Z hs_)); have z_ := Z; simp only [Live, List.forall_mem_cons, List.not_mem_nil, false_imp_iff, implies_true, and_true] at z_))
  refine wp_loop_rounds 6 ?_
  repeat (rw [rounds_succ]; go_wp2_with (first | (go_at_call 74; refine (lwithin_t _ _ _ _ ?_ ?_).mono ?_; omega; omega; rintro e w' ⟨rfl, rfl⟩) | (go_at_call 74; refine (lwithin_f _ _ _ _ ?_).mono ?_; omega; rintro e w' ⟨rfl, rfl⟩)))
  go_ret
  exact ⟨rfl, by ((repeat' (first | (with_reducible exact Keeps.refl _) | (with_reducible assumption) | (with_reducible refine Keeps.drewN ?_ _) | (with_reducible refine Keeps.drew ?_) | (with_reducible refine Keeps.alloc ?_ _) | (with_reducible refine Keeps.setCell ?_ ?_ _) | (with_reducible refine Keeps.trans ?_ (After.keeps _)) | (with_reducible refine Keeps.trans ?_ (by with_reducible assumption)) | go_size)); (first | done | fail))⟩

set_option maxHeartbeats 1000000 in
theorem cell4_t (p k d s c b n : Int) (w : World) (h : mayB p k d s c b = true) (n0 : 0 ≤ n) (n1 : n < s) : Calls Tryz.prog 76 #[.agg #[.int .i64 p, .int .i64 k, .int .i64 d, .int .i64 s, .int .i64 c, .int .i64 b], .int .i64 4, .int .i64 n] w fun e w' => e = .returned (.int .i64 (3 + p + n)) ∧ Keeps w w' := by
  obtain ⟨⟨p0, p1⟩, ⟨k0, k1⟩, ⟨d0, d1⟩, -, ⟨s0, s1⟩, ⟨c0, c1⟩, b0, b1⟩ := mayB_true.1 h
  obtain ⟨q0, q1⟩ := prod_bd k0 k1 d0 d1
  have HM := Lib.hid h
  clear h
  have I0 : ∀ w, (Instr.index 96 (.agg #[.int .i64 3, .int .i64 3, .int .i64 p, .int .i64 4, .int .i64 (3 + p), .int .i64 s, .int .i64 5, .int .i64 (3 + p + s), .int .i64 s, .int .i64 6, .int .i64 (3 + p + s + s), .int .i64 k, .int .i64 7, .int .i64 (3 + p + s + s + k), .int .i64 (k * d)]) (.int .i64 0)).run Tryz.prog w = .ok (.agg #[.int .i64 3, .int .i64 3, .int .i64 p]) w := fun _ => by kernel_rfl
  have I1 : ∀ w, (Instr.index 96 (.agg #[.int .i64 3, .int .i64 3, .int .i64 p, .int .i64 4, .int .i64 (3 + p), .int .i64 s, .int .i64 5, .int .i64 (3 + p + s), .int .i64 s, .int .i64 6, .int .i64 (3 + p + s + s), .int .i64 k, .int .i64 7, .int .i64 (3 + p + s + s + k), .int .i64 (k * d)]) (.int .i64 1)).run Tryz.prog w = .ok (.agg #[.int .i64 4, .int .i64 (3 + p), .int .i64 s]) w := fun _ => by kernel_rfl
  have I2 : ∀ w, (Instr.index 96 (.agg #[.int .i64 3, .int .i64 3, .int .i64 p, .int .i64 4, .int .i64 (3 + p), .int .i64 s, .int .i64 5, .int .i64 (3 + p + s), .int .i64 s, .int .i64 6, .int .i64 (3 + p + s + s), .int .i64 k, .int .i64 7, .int .i64 (3 + p + s + s + k), .int .i64 (k * d)]) (.int .i64 2)).run Tryz.prog w = .ok (.agg #[.int .i64 5, .int .i64 (3 + p + s), .int .i64 s]) w := fun _ => by kernel_rfl
  have I3 : ∀ w, (Instr.index 96 (.agg #[.int .i64 3, .int .i64 3, .int .i64 p, .int .i64 4, .int .i64 (3 + p), .int .i64 s, .int .i64 5, .int .i64 (3 + p + s), .int .i64 s, .int .i64 6, .int .i64 (3 + p + s + s), .int .i64 k, .int .i64 7, .int .i64 (3 + p + s + s + k), .int .i64 (k * d)]) (.int .i64 3)).run Tryz.prog w = .ok (.agg #[.int .i64 6, .int .i64 (3 + p + s + s), .int .i64 k]) w := fun _ => by kernel_rfl
  have I4 : ∀ w, (Instr.index 96 (.agg #[.int .i64 3, .int .i64 3, .int .i64 p, .int .i64 4, .int .i64 (3 + p), .int .i64 s, .int .i64 5, .int .i64 (3 + p + s), .int .i64 s, .int .i64 6, .int .i64 (3 + p + s + s), .int .i64 k, .int .i64 7, .int .i64 (3 + p + s + s + k), .int .i64 (k * d)]) (.int .i64 4)).run Tryz.prog w = .ok (.agg #[.int .i64 7, .int .i64 (3 + p + s + s + k), .int .i64 (k * d)]) w := fun _ => by kernel_rfl
  have Z := Live.nil w.heap.size
  go_enter Tryz.func76, Tryz.ntmps76
  go_wp2_with (first
    | (go_at_call 35; refine (may_c _ _ _ _ _ _ _).mono ?_; rintro e w' ⟨rfl, h1⟩; rw [HM.out]; have hc_ := fun (b o : Nat) (hb : b < _) => (h1).cell (b := b) (o := o) hb; have hf_ := fun (b o : Nat) (hb : b < _) => (h1).frozen (b := b) (o := o) hb; have hs_ := (h1).size; (try simp only [World.size_alloc, World.heap_drewN, World.size_drew, World.size_setCell] at hs_); (first | (with_reducible replace Z := Live.step0 Z hs_) | (with_reducible replace Z := Live.step1 Z hs_) | (with_reducible replace Z := Live.step2 Z hs_) | (with_reducible replace Z := Live.step3 Z hs_) | (with_reducible replace Z := Live.step4 Z hs_)); have z_ := Z; simp only [Live, List.forall_mem_cons, List.not_mem_nil, false_imp_iff, implies_true, and_true] at z_)
    | (go_at_call 36; refine (parts_c _ _ _ _ _ _ _ HM.out).mono ?_; rintro e w' ⟨rfl, h2⟩; have hc_ := fun (b o : Nat) (hb : b < _) => (h2).cell (b := b) (o := o) hb; have hf_ := fun (b o : Nat) (hb : b < _) => (h2).frozen (b := b) (o := o) hb; have hs_ := (h2).size; (try simp only [World.size_alloc, World.heap_drewN, World.size_drew, World.size_setCell] at hs_); (first | (with_reducible replace Z := Live.step0 Z hs_) | (with_reducible replace Z := Live.step1 Z hs_) | (with_reducible replace Z := Live.step2 Z hs_) | (with_reducible replace Z := Live.step3 Z hs_) | (with_reducible replace Z := Live.step4 Z hs_)); have z_ := Z; simp only [Live, List.forall_mem_cons, List.not_mem_nil, false_imp_iff, implies_true, and_true] at z_))
  refine wp_loop_rounds 6 ?_
  repeat (rw [rounds_succ]; go_wp2_with (first | (go_at_call 74; refine (lwithin_t _ _ _ _ ?_ ?_).mono ?_; omega; omega; rintro e w' ⟨rfl, rfl⟩) | (go_at_call 74; refine (lwithin_f _ _ _ _ ?_).mono ?_; omega; rintro e w' ⟨rfl, rfl⟩)))
  go_ret
  exact ⟨rfl, by ((repeat' (first | (with_reducible exact Keeps.refl _) | (with_reducible assumption) | (with_reducible refine Keeps.drewN ?_ _) | (with_reducible refine Keeps.drew ?_) | (with_reducible refine Keeps.alloc ?_ _) | (with_reducible refine Keeps.setCell ?_ ?_ _) | (with_reducible refine Keeps.trans ?_ (After.keeps _)) | (with_reducible refine Keeps.trans ?_ (by with_reducible assumption)) | go_size)); (first | done | fail))⟩

set_option maxHeartbeats 1000000 in
theorem cell4_f (p k d s c b n : Int) (w : World) (h : mayB p k d s c b = true) (hn : n < 0 ∨ s ≤ n) : Calls Tryz.prog 76 #[.agg #[.int .i64 p, .int .i64 k, .int .i64 d, .int .i64 s, .int .i64 c, .int .i64 b], .int .i64 4, .int .i64 n] w fun e w' => e = .returned (.int .i64 (-1)) ∧ Keeps w w' := by
  obtain ⟨⟨p0, p1⟩, ⟨k0, k1⟩, ⟨d0, d1⟩, -, ⟨s0, s1⟩, ⟨c0, c1⟩, b0, b1⟩ := mayB_true.1 h
  obtain ⟨q0, q1⟩ := prod_bd k0 k1 d0 d1
  have HM := Lib.hid h
  clear h
  have I0 : ∀ w, (Instr.index 96 (.agg #[.int .i64 3, .int .i64 3, .int .i64 p, .int .i64 4, .int .i64 (3 + p), .int .i64 s, .int .i64 5, .int .i64 (3 + p + s), .int .i64 s, .int .i64 6, .int .i64 (3 + p + s + s), .int .i64 k, .int .i64 7, .int .i64 (3 + p + s + s + k), .int .i64 (k * d)]) (.int .i64 0)).run Tryz.prog w = .ok (.agg #[.int .i64 3, .int .i64 3, .int .i64 p]) w := fun _ => by kernel_rfl
  have I1 : ∀ w, (Instr.index 96 (.agg #[.int .i64 3, .int .i64 3, .int .i64 p, .int .i64 4, .int .i64 (3 + p), .int .i64 s, .int .i64 5, .int .i64 (3 + p + s), .int .i64 s, .int .i64 6, .int .i64 (3 + p + s + s), .int .i64 k, .int .i64 7, .int .i64 (3 + p + s + s + k), .int .i64 (k * d)]) (.int .i64 1)).run Tryz.prog w = .ok (.agg #[.int .i64 4, .int .i64 (3 + p), .int .i64 s]) w := fun _ => by kernel_rfl
  have I2 : ∀ w, (Instr.index 96 (.agg #[.int .i64 3, .int .i64 3, .int .i64 p, .int .i64 4, .int .i64 (3 + p), .int .i64 s, .int .i64 5, .int .i64 (3 + p + s), .int .i64 s, .int .i64 6, .int .i64 (3 + p + s + s), .int .i64 k, .int .i64 7, .int .i64 (3 + p + s + s + k), .int .i64 (k * d)]) (.int .i64 2)).run Tryz.prog w = .ok (.agg #[.int .i64 5, .int .i64 (3 + p + s), .int .i64 s]) w := fun _ => by kernel_rfl
  have I3 : ∀ w, (Instr.index 96 (.agg #[.int .i64 3, .int .i64 3, .int .i64 p, .int .i64 4, .int .i64 (3 + p), .int .i64 s, .int .i64 5, .int .i64 (3 + p + s), .int .i64 s, .int .i64 6, .int .i64 (3 + p + s + s), .int .i64 k, .int .i64 7, .int .i64 (3 + p + s + s + k), .int .i64 (k * d)]) (.int .i64 3)).run Tryz.prog w = .ok (.agg #[.int .i64 6, .int .i64 (3 + p + s + s), .int .i64 k]) w := fun _ => by kernel_rfl
  have I4 : ∀ w, (Instr.index 96 (.agg #[.int .i64 3, .int .i64 3, .int .i64 p, .int .i64 4, .int .i64 (3 + p), .int .i64 s, .int .i64 5, .int .i64 (3 + p + s), .int .i64 s, .int .i64 6, .int .i64 (3 + p + s + s), .int .i64 k, .int .i64 7, .int .i64 (3 + p + s + s + k), .int .i64 (k * d)]) (.int .i64 4)).run Tryz.prog w = .ok (.agg #[.int .i64 7, .int .i64 (3 + p + s + s + k), .int .i64 (k * d)]) w := fun _ => by kernel_rfl
  have Z := Live.nil w.heap.size
  go_enter Tryz.func76, Tryz.ntmps76
  go_wp2_with (first
    | (go_at_call 35; refine (may_c _ _ _ _ _ _ _).mono ?_; rintro e w' ⟨rfl, h1⟩; rw [HM.out]; have hc_ := fun (b o : Nat) (hb : b < _) => (h1).cell (b := b) (o := o) hb; have hf_ := fun (b o : Nat) (hb : b < _) => (h1).frozen (b := b) (o := o) hb; have hs_ := (h1).size; (try simp only [World.size_alloc, World.heap_drewN, World.size_drew, World.size_setCell] at hs_); (first | (with_reducible replace Z := Live.step0 Z hs_) | (with_reducible replace Z := Live.step1 Z hs_) | (with_reducible replace Z := Live.step2 Z hs_) | (with_reducible replace Z := Live.step3 Z hs_) | (with_reducible replace Z := Live.step4 Z hs_)); have z_ := Z; simp only [Live, List.forall_mem_cons, List.not_mem_nil, false_imp_iff, implies_true, and_true] at z_)
    | (go_at_call 36; refine (parts_c _ _ _ _ _ _ _ HM.out).mono ?_; rintro e w' ⟨rfl, h2⟩; have hc_ := fun (b o : Nat) (hb : b < _) => (h2).cell (b := b) (o := o) hb; have hf_ := fun (b o : Nat) (hb : b < _) => (h2).frozen (b := b) (o := o) hb; have hs_ := (h2).size; (try simp only [World.size_alloc, World.heap_drewN, World.size_drew, World.size_setCell] at hs_); (first | (with_reducible replace Z := Live.step0 Z hs_) | (with_reducible replace Z := Live.step1 Z hs_) | (with_reducible replace Z := Live.step2 Z hs_) | (with_reducible replace Z := Live.step3 Z hs_) | (with_reducible replace Z := Live.step4 Z hs_)); have z_ := Z; simp only [Live, List.forall_mem_cons, List.not_mem_nil, false_imp_iff, implies_true, and_true] at z_))
  refine wp_loop_rounds 6 ?_
  repeat (rw [rounds_succ]; go_wp2_with (first | (go_at_call 74; refine (lwithin_t _ _ _ _ ?_ ?_).mono ?_; omega; omega; rintro e w' ⟨rfl, rfl⟩) | (go_at_call 74; refine (lwithin_f _ _ _ _ ?_).mono ?_; omega; rintro e w' ⟨rfl, rfl⟩)))
  go_ret
  exact ⟨rfl, by ((repeat' (first | (with_reducible exact Keeps.refl _) | (with_reducible assumption) | (with_reducible refine Keeps.drewN ?_ _) | (with_reducible refine Keeps.drew ?_) | (with_reducible refine Keeps.alloc ?_ _) | (with_reducible refine Keeps.setCell ?_ ?_ _) | (with_reducible refine Keeps.trans ?_ (After.keeps _)) | (with_reducible refine Keeps.trans ?_ (by with_reducible assumption)) | go_size)); (first | done | fail))⟩

set_option maxHeartbeats 1000000 in
theorem cell5_t (p k d s c b n : Int) (w : World) (h : mayB p k d s c b = true) (n0 : 0 ≤ n) (n1 : n < s) : Calls Tryz.prog 76 #[.agg #[.int .i64 p, .int .i64 k, .int .i64 d, .int .i64 s, .int .i64 c, .int .i64 b], .int .i64 5, .int .i64 n] w fun e w' => e = .returned (.int .i64 (3 + p + s + n)) ∧ Keeps w w' := by
  obtain ⟨⟨p0, p1⟩, ⟨k0, k1⟩, ⟨d0, d1⟩, -, ⟨s0, s1⟩, ⟨c0, c1⟩, b0, b1⟩ := mayB_true.1 h
  obtain ⟨q0, q1⟩ := prod_bd k0 k1 d0 d1
  have HM := Lib.hid h
  clear h
  have I0 : ∀ w, (Instr.index 96 (.agg #[.int .i64 3, .int .i64 3, .int .i64 p, .int .i64 4, .int .i64 (3 + p), .int .i64 s, .int .i64 5, .int .i64 (3 + p + s), .int .i64 s, .int .i64 6, .int .i64 (3 + p + s + s), .int .i64 k, .int .i64 7, .int .i64 (3 + p + s + s + k), .int .i64 (k * d)]) (.int .i64 0)).run Tryz.prog w = .ok (.agg #[.int .i64 3, .int .i64 3, .int .i64 p]) w := fun _ => by kernel_rfl
  have I1 : ∀ w, (Instr.index 96 (.agg #[.int .i64 3, .int .i64 3, .int .i64 p, .int .i64 4, .int .i64 (3 + p), .int .i64 s, .int .i64 5, .int .i64 (3 + p + s), .int .i64 s, .int .i64 6, .int .i64 (3 + p + s + s), .int .i64 k, .int .i64 7, .int .i64 (3 + p + s + s + k), .int .i64 (k * d)]) (.int .i64 1)).run Tryz.prog w = .ok (.agg #[.int .i64 4, .int .i64 (3 + p), .int .i64 s]) w := fun _ => by kernel_rfl
  have I2 : ∀ w, (Instr.index 96 (.agg #[.int .i64 3, .int .i64 3, .int .i64 p, .int .i64 4, .int .i64 (3 + p), .int .i64 s, .int .i64 5, .int .i64 (3 + p + s), .int .i64 s, .int .i64 6, .int .i64 (3 + p + s + s), .int .i64 k, .int .i64 7, .int .i64 (3 + p + s + s + k), .int .i64 (k * d)]) (.int .i64 2)).run Tryz.prog w = .ok (.agg #[.int .i64 5, .int .i64 (3 + p + s), .int .i64 s]) w := fun _ => by kernel_rfl
  have I3 : ∀ w, (Instr.index 96 (.agg #[.int .i64 3, .int .i64 3, .int .i64 p, .int .i64 4, .int .i64 (3 + p), .int .i64 s, .int .i64 5, .int .i64 (3 + p + s), .int .i64 s, .int .i64 6, .int .i64 (3 + p + s + s), .int .i64 k, .int .i64 7, .int .i64 (3 + p + s + s + k), .int .i64 (k * d)]) (.int .i64 3)).run Tryz.prog w = .ok (.agg #[.int .i64 6, .int .i64 (3 + p + s + s), .int .i64 k]) w := fun _ => by kernel_rfl
  have I4 : ∀ w, (Instr.index 96 (.agg #[.int .i64 3, .int .i64 3, .int .i64 p, .int .i64 4, .int .i64 (3 + p), .int .i64 s, .int .i64 5, .int .i64 (3 + p + s), .int .i64 s, .int .i64 6, .int .i64 (3 + p + s + s), .int .i64 k, .int .i64 7, .int .i64 (3 + p + s + s + k), .int .i64 (k * d)]) (.int .i64 4)).run Tryz.prog w = .ok (.agg #[.int .i64 7, .int .i64 (3 + p + s + s + k), .int .i64 (k * d)]) w := fun _ => by kernel_rfl
  have Z := Live.nil w.heap.size
  go_enter Tryz.func76, Tryz.ntmps76
  go_wp2_with (first
    | (go_at_call 35; refine (may_c _ _ _ _ _ _ _).mono ?_; rintro e w' ⟨rfl, h1⟩; rw [HM.out]; have hc_ := fun (b o : Nat) (hb : b < _) => (h1).cell (b := b) (o := o) hb; have hf_ := fun (b o : Nat) (hb : b < _) => (h1).frozen (b := b) (o := o) hb; have hs_ := (h1).size; (try simp only [World.size_alloc, World.heap_drewN, World.size_drew, World.size_setCell] at hs_); (first | (with_reducible replace Z := Live.step0 Z hs_) | (with_reducible replace Z := Live.step1 Z hs_) | (with_reducible replace Z := Live.step2 Z hs_) | (with_reducible replace Z := Live.step3 Z hs_) | (with_reducible replace Z := Live.step4 Z hs_)); have z_ := Z; simp only [Live, List.forall_mem_cons, List.not_mem_nil, false_imp_iff, implies_true, and_true] at z_)
    | (go_at_call 36; refine (parts_c _ _ _ _ _ _ _ HM.out).mono ?_; rintro e w' ⟨rfl, h2⟩; have hc_ := fun (b o : Nat) (hb : b < _) => (h2).cell (b := b) (o := o) hb; have hf_ := fun (b o : Nat) (hb : b < _) => (h2).frozen (b := b) (o := o) hb; have hs_ := (h2).size; (try simp only [World.size_alloc, World.heap_drewN, World.size_drew, World.size_setCell] at hs_); (first | (with_reducible replace Z := Live.step0 Z hs_) | (with_reducible replace Z := Live.step1 Z hs_) | (with_reducible replace Z := Live.step2 Z hs_) | (with_reducible replace Z := Live.step3 Z hs_) | (with_reducible replace Z := Live.step4 Z hs_)); have z_ := Z; simp only [Live, List.forall_mem_cons, List.not_mem_nil, false_imp_iff, implies_true, and_true] at z_))
  refine wp_loop_rounds 6 ?_
  repeat (rw [rounds_succ]; go_wp2_with (first | (go_at_call 74; refine (lwithin_t _ _ _ _ ?_ ?_).mono ?_; omega; omega; rintro e w' ⟨rfl, rfl⟩) | (go_at_call 74; refine (lwithin_f _ _ _ _ ?_).mono ?_; omega; rintro e w' ⟨rfl, rfl⟩)))
  go_ret
  exact ⟨rfl, by ((repeat' (first | (with_reducible exact Keeps.refl _) | (with_reducible assumption) | (with_reducible refine Keeps.drewN ?_ _) | (with_reducible refine Keeps.drew ?_) | (with_reducible refine Keeps.alloc ?_ _) | (with_reducible refine Keeps.setCell ?_ ?_ _) | (with_reducible refine Keeps.trans ?_ (After.keeps _)) | (with_reducible refine Keeps.trans ?_ (by with_reducible assumption)) | go_size)); (first | done | fail))⟩

set_option maxHeartbeats 1000000 in
theorem cell5_f (p k d s c b n : Int) (w : World) (h : mayB p k d s c b = true) (hn : n < 0 ∨ s ≤ n) : Calls Tryz.prog 76 #[.agg #[.int .i64 p, .int .i64 k, .int .i64 d, .int .i64 s, .int .i64 c, .int .i64 b], .int .i64 5, .int .i64 n] w fun e w' => e = .returned (.int .i64 (-1)) ∧ Keeps w w' := by
  obtain ⟨⟨p0, p1⟩, ⟨k0, k1⟩, ⟨d0, d1⟩, -, ⟨s0, s1⟩, ⟨c0, c1⟩, b0, b1⟩ := mayB_true.1 h
  obtain ⟨q0, q1⟩ := prod_bd k0 k1 d0 d1
  have HM := Lib.hid h
  clear h
  have I0 : ∀ w, (Instr.index 96 (.agg #[.int .i64 3, .int .i64 3, .int .i64 p, .int .i64 4, .int .i64 (3 + p), .int .i64 s, .int .i64 5, .int .i64 (3 + p + s), .int .i64 s, .int .i64 6, .int .i64 (3 + p + s + s), .int .i64 k, .int .i64 7, .int .i64 (3 + p + s + s + k), .int .i64 (k * d)]) (.int .i64 0)).run Tryz.prog w = .ok (.agg #[.int .i64 3, .int .i64 3, .int .i64 p]) w := fun _ => by kernel_rfl
  have I1 : ∀ w, (Instr.index 96 (.agg #[.int .i64 3, .int .i64 3, .int .i64 p, .int .i64 4, .int .i64 (3 + p), .int .i64 s, .int .i64 5, .int .i64 (3 + p + s), .int .i64 s, .int .i64 6, .int .i64 (3 + p + s + s), .int .i64 k, .int .i64 7, .int .i64 (3 + p + s + s + k), .int .i64 (k * d)]) (.int .i64 1)).run Tryz.prog w = .ok (.agg #[.int .i64 4, .int .i64 (3 + p), .int .i64 s]) w := fun _ => by kernel_rfl
  have I2 : ∀ w, (Instr.index 96 (.agg #[.int .i64 3, .int .i64 3, .int .i64 p, .int .i64 4, .int .i64 (3 + p), .int .i64 s, .int .i64 5, .int .i64 (3 + p + s), .int .i64 s, .int .i64 6, .int .i64 (3 + p + s + s), .int .i64 k, .int .i64 7, .int .i64 (3 + p + s + s + k), .int .i64 (k * d)]) (.int .i64 2)).run Tryz.prog w = .ok (.agg #[.int .i64 5, .int .i64 (3 + p + s), .int .i64 s]) w := fun _ => by kernel_rfl
  have I3 : ∀ w, (Instr.index 96 (.agg #[.int .i64 3, .int .i64 3, .int .i64 p, .int .i64 4, .int .i64 (3 + p), .int .i64 s, .int .i64 5, .int .i64 (3 + p + s), .int .i64 s, .int .i64 6, .int .i64 (3 + p + s + s), .int .i64 k, .int .i64 7, .int .i64 (3 + p + s + s + k), .int .i64 (k * d)]) (.int .i64 3)).run Tryz.prog w = .ok (.agg #[.int .i64 6, .int .i64 (3 + p + s + s), .int .i64 k]) w := fun _ => by kernel_rfl
  have I4 : ∀ w, (Instr.index 96 (.agg #[.int .i64 3, .int .i64 3, .int .i64 p, .int .i64 4, .int .i64 (3 + p), .int .i64 s, .int .i64 5, .int .i64 (3 + p + s), .int .i64 s, .int .i64 6, .int .i64 (3 + p + s + s), .int .i64 k, .int .i64 7, .int .i64 (3 + p + s + s + k), .int .i64 (k * d)]) (.int .i64 4)).run Tryz.prog w = .ok (.agg #[.int .i64 7, .int .i64 (3 + p + s + s + k), .int .i64 (k * d)]) w := fun _ => by kernel_rfl
  have Z := Live.nil w.heap.size
  go_enter Tryz.func76, Tryz.ntmps76
  go_wp2_with (first
    | (go_at_call 35; refine (may_c _ _ _ _ _ _ _).mono ?_; rintro e w' ⟨rfl, h1⟩; rw [HM.out]; have hc_ := fun (b o : Nat) (hb : b < _) => (h1).cell (b := b) (o := o) hb; have hf_ := fun (b o : Nat) (hb : b < _) => (h1).frozen (b := b) (o := o) hb; have hs_ := (h1).size; (try simp only [World.size_alloc, World.heap_drewN, World.size_drew, World.size_setCell] at hs_); (first | (with_reducible replace Z := Live.step0 Z hs_) | (with_reducible replace Z := Live.step1 Z hs_) | (with_reducible replace Z := Live.step2 Z hs_) | (with_reducible replace Z := Live.step3 Z hs_) | (with_reducible replace Z := Live.step4 Z hs_)); have z_ := Z; simp only [Live, List.forall_mem_cons, List.not_mem_nil, false_imp_iff, implies_true, and_true] at z_)
    | (go_at_call 36; refine (parts_c _ _ _ _ _ _ _ HM.out).mono ?_; rintro e w' ⟨rfl, h2⟩; have hc_ := fun (b o : Nat) (hb : b < _) => (h2).cell (b := b) (o := o) hb; have hf_ := fun (b o : Nat) (hb : b < _) => (h2).frozen (b := b) (o := o) hb; have hs_ := (h2).size; (try simp only [World.size_alloc, World.heap_drewN, World.size_drew, World.size_setCell] at hs_); (first | (with_reducible replace Z := Live.step0 Z hs_) | (with_reducible replace Z := Live.step1 Z hs_) | (with_reducible replace Z := Live.step2 Z hs_) | (with_reducible replace Z := Live.step3 Z hs_) | (with_reducible replace Z := Live.step4 Z hs_)); have z_ := Z; simp only [Live, List.forall_mem_cons, List.not_mem_nil, false_imp_iff, implies_true, and_true] at z_))
  refine wp_loop_rounds 6 ?_
  repeat (rw [rounds_succ]; go_wp2_with (first | (go_at_call 74; refine (lwithin_t _ _ _ _ ?_ ?_).mono ?_; omega; omega; rintro e w' ⟨rfl, rfl⟩) | (go_at_call 74; refine (lwithin_f _ _ _ _ ?_).mono ?_; omega; rintro e w' ⟨rfl, rfl⟩)))
  go_ret
  exact ⟨rfl, by ((repeat' (first | (with_reducible exact Keeps.refl _) | (with_reducible assumption) | (with_reducible refine Keeps.drewN ?_ _) | (with_reducible refine Keeps.drew ?_) | (with_reducible refine Keeps.alloc ?_ _) | (with_reducible refine Keeps.setCell ?_ ?_ _) | (with_reducible refine Keeps.trans ?_ (After.keeps _)) | (with_reducible refine Keeps.trans ?_ (by with_reducible assumption)) | go_size)); (first | done | fail))⟩

set_option maxHeartbeats 1000000 in
theorem cell6_t (p k d s c b n : Int) (w : World) (h : mayB p k d s c b = true) (n0 : 0 ≤ n) (n1 : n < k) : Calls Tryz.prog 76 #[.agg #[.int .i64 p, .int .i64 k, .int .i64 d, .int .i64 s, .int .i64 c, .int .i64 b], .int .i64 6, .int .i64 n] w fun e w' => e = .returned (.int .i64 (3 + p + s + s + n)) ∧ Keeps w w' := by
  obtain ⟨⟨p0, p1⟩, ⟨k0, k1⟩, ⟨d0, d1⟩, -, ⟨s0, s1⟩, ⟨c0, c1⟩, b0, b1⟩ := mayB_true.1 h
  obtain ⟨q0, q1⟩ := prod_bd k0 k1 d0 d1
  have HM := Lib.hid h
  clear h
  have I0 : ∀ w, (Instr.index 96 (.agg #[.int .i64 3, .int .i64 3, .int .i64 p, .int .i64 4, .int .i64 (3 + p), .int .i64 s, .int .i64 5, .int .i64 (3 + p + s), .int .i64 s, .int .i64 6, .int .i64 (3 + p + s + s), .int .i64 k, .int .i64 7, .int .i64 (3 + p + s + s + k), .int .i64 (k * d)]) (.int .i64 0)).run Tryz.prog w = .ok (.agg #[.int .i64 3, .int .i64 3, .int .i64 p]) w := fun _ => by kernel_rfl
  have I1 : ∀ w, (Instr.index 96 (.agg #[.int .i64 3, .int .i64 3, .int .i64 p, .int .i64 4, .int .i64 (3 + p), .int .i64 s, .int .i64 5, .int .i64 (3 + p + s), .int .i64 s, .int .i64 6, .int .i64 (3 + p + s + s), .int .i64 k, .int .i64 7, .int .i64 (3 + p + s + s + k), .int .i64 (k * d)]) (.int .i64 1)).run Tryz.prog w = .ok (.agg #[.int .i64 4, .int .i64 (3 + p), .int .i64 s]) w := fun _ => by kernel_rfl
  have I2 : ∀ w, (Instr.index 96 (.agg #[.int .i64 3, .int .i64 3, .int .i64 p, .int .i64 4, .int .i64 (3 + p), .int .i64 s, .int .i64 5, .int .i64 (3 + p + s), .int .i64 s, .int .i64 6, .int .i64 (3 + p + s + s), .int .i64 k, .int .i64 7, .int .i64 (3 + p + s + s + k), .int .i64 (k * d)]) (.int .i64 2)).run Tryz.prog w = .ok (.agg #[.int .i64 5, .int .i64 (3 + p + s), .int .i64 s]) w := fun _ => by kernel_rfl
  have I3 : ∀ w, (Instr.index 96 (.agg #[.int .i64 3, .int .i64 3, .int .i64 p, .int .i64 4, .int .i64 (3 + p), .int .i64 s, .int .i64 5, .int .i64 (3 + p + s), .int .i64 s, .int .i64 6, .int .i64 (3 + p + s + s), .int .i64 k, .int .i64 7, .int .i64 (3 + p + s + s + k), .int .i64 (k * d)]) (.int .i64 3)).run Tryz.prog w = .ok (.agg #[.int .i64 6, .int .i64 (3 + p + s + s), .int .i64 k]) w := fun _ => by kernel_rfl
  have I4 : ∀ w, (Instr.index 96 (.agg #[.int .i64 3, .int .i64 3, .int .i64 p, .int .i64 4, .int .i64 (3 + p), .int .i64 s, .int .i64 5, .int .i64 (3 + p + s), .int .i64 s, .int .i64 6, .int .i64 (3 + p + s + s), .int .i64 k, .int .i64 7, .int .i64 (3 + p + s + s + k), .int .i64 (k * d)]) (.int .i64 4)).run Tryz.prog w = .ok (.agg #[.int .i64 7, .int .i64 (3 + p + s + s + k), .int .i64 (k * d)]) w := fun _ => by kernel_rfl
  have Z := Live.nil w.heap.size
  go_enter Tryz.func76, Tryz.ntmps76
  go_wp2_with (first
    | (go_at_call 35; refine (may_c _ _ _ _ _ _ _).mono ?_; rintro e w' ⟨rfl, h1⟩; rw [HM.out]; have hc_ := fun (b o : Nat) (hb : b < _) => (h1).cell (b := b) (o := o) hb; have hf_ := fun (b o : Nat) (hb : b < _) => (h1).frozen (b := b) (o := o) hb; have hs_ := (h1).size; (try simp only [World.size_alloc, World.heap_drewN, World.size_drew, World.size_setCell] at hs_); (first | (with_reducible replace Z := Live.step0 Z hs_) | (with_reducible replace Z := Live.step1 Z hs_) | (with_reducible replace Z := Live.step2 Z hs_) | (with_reducible replace Z := Live.step3 Z hs_) | (with_reducible replace Z := Live.step4 Z hs_)); have z_ := Z; simp only [Live, List.forall_mem_cons, List.not_mem_nil, false_imp_iff, implies_true, and_true] at z_)
    | (go_at_call 36; refine (parts_c _ _ _ _ _ _ _ HM.out).mono ?_; rintro e w' ⟨rfl, h2⟩; have hc_ := fun (b o : Nat) (hb : b < _) => (h2).cell (b := b) (o := o) hb; have hf_ := fun (b o : Nat) (hb : b < _) => (h2).frozen (b := b) (o := o) hb; have hs_ := (h2).size; (try simp only [World.size_alloc, World.heap_drewN, World.size_drew, World.size_setCell] at hs_); (first | (with_reducible replace Z := Live.step0 Z hs_) | (with_reducible replace Z := Live.step1 Z hs_) | (with_reducible replace Z := Live.step2 Z hs_) | (with_reducible replace Z := Live.step3 Z hs_) | (with_reducible replace Z := Live.step4 Z hs_)); have z_ := Z; simp only [Live, List.forall_mem_cons, List.not_mem_nil, false_imp_iff, implies_true, and_true] at z_))
  refine wp_loop_rounds 6 ?_
  repeat (rw [rounds_succ]; go_wp2_with (first | (go_at_call 74; refine (lwithin_t _ _ _ _ ?_ ?_).mono ?_; omega; omega; rintro e w' ⟨rfl, rfl⟩) | (go_at_call 74; refine (lwithin_f _ _ _ _ ?_).mono ?_; omega; rintro e w' ⟨rfl, rfl⟩)))
  go_ret
  exact ⟨rfl, by ((repeat' (first | (with_reducible exact Keeps.refl _) | (with_reducible assumption) | (with_reducible refine Keeps.drewN ?_ _) | (with_reducible refine Keeps.drew ?_) | (with_reducible refine Keeps.alloc ?_ _) | (with_reducible refine Keeps.setCell ?_ ?_ _) | (with_reducible refine Keeps.trans ?_ (After.keeps _)) | (with_reducible refine Keeps.trans ?_ (by with_reducible assumption)) | go_size)); (first | done | fail))⟩

set_option maxHeartbeats 1000000 in
theorem cell6_f (p k d s c b n : Int) (w : World) (h : mayB p k d s c b = true) (hn : n < 0 ∨ k ≤ n) : Calls Tryz.prog 76 #[.agg #[.int .i64 p, .int .i64 k, .int .i64 d, .int .i64 s, .int .i64 c, .int .i64 b], .int .i64 6, .int .i64 n] w fun e w' => e = .returned (.int .i64 (-1)) ∧ Keeps w w' := by
  obtain ⟨⟨p0, p1⟩, ⟨k0, k1⟩, ⟨d0, d1⟩, -, ⟨s0, s1⟩, ⟨c0, c1⟩, b0, b1⟩ := mayB_true.1 h
  obtain ⟨q0, q1⟩ := prod_bd k0 k1 d0 d1
  have HM := Lib.hid h
  clear h
  have I0 : ∀ w, (Instr.index 96 (.agg #[.int .i64 3, .int .i64 3, .int .i64 p, .int .i64 4, .int .i64 (3 + p), .int .i64 s, .int .i64 5, .int .i64 (3 + p + s), .int .i64 s, .int .i64 6, .int .i64 (3 + p + s + s), .int .i64 k, .int .i64 7, .int .i64 (3 + p + s + s + k), .int .i64 (k * d)]) (.int .i64 0)).run Tryz.prog w = .ok (.agg #[.int .i64 3, .int .i64 3, .int .i64 p]) w := fun _ => by kernel_rfl
  have I1 : ∀ w, (Instr.index 96 (.agg #[.int .i64 3, .int .i64 3, .int .i64 p, .int .i64 4, .int .i64 (3 + p), .int .i64 s, .int .i64 5, .int .i64 (3 + p + s), .int .i64 s, .int .i64 6, .int .i64 (3 + p + s + s), .int .i64 k, .int .i64 7, .int .i64 (3 + p + s + s + k), .int .i64 (k * d)]) (.int .i64 1)).run Tryz.prog w = .ok (.agg #[.int .i64 4, .int .i64 (3 + p), .int .i64 s]) w := fun _ => by kernel_rfl
  have I2 : ∀ w, (Instr.index 96 (.agg #[.int .i64 3, .int .i64 3, .int .i64 p, .int .i64 4, .int .i64 (3 + p), .int .i64 s, .int .i64 5, .int .i64 (3 + p + s), .int .i64 s, .int .i64 6, .int .i64 (3 + p + s + s), .int .i64 k, .int .i64 7, .int .i64 (3 + p + s + s + k), .int .i64 (k * d)]) (.int .i64 2)).run Tryz.prog w = .ok (.agg #[.int .i64 5, .int .i64 (3 + p + s), .int .i64 s]) w := fun _ => by kernel_rfl
  have I3 : ∀ w, (Instr.index 96 (.agg #[.int .i64 3, .int .i64 3, .int .i64 p, .int .i64 4, .int .i64 (3 + p), .int .i64 s, .int .i64 5, .int .i64 (3 + p + s), .int .i64 s, .int .i64 6, .int .i64 (3 + p + s + s), .int .i64 k, .int .i64 7, .int .i64 (3 + p + s + s + k), .int .i64 (k * d)]) (.int .i64 3)).run Tryz.prog w = .ok (.agg #[.int .i64 6, .int .i64 (3 + p + s + s), .int .i64 k]) w := fun _ => by kernel_rfl
  have I4 : ∀ w, (Instr.index 96 (.agg #[.int .i64 3, .int .i64 3, .int .i64 p, .int .i64 4, .int .i64 (3 + p), .int .i64 s, .int .i64 5, .int .i64 (3 + p + s), .int .i64 s, .int .i64 6, .int .i64 (3 + p + s + s), .int .i64 k, .int .i64 7, .int .i64 (3 + p + s + s + k), .int .i64 (k * d)]) (.int .i64 4)).run Tryz.prog w = .ok (.agg #[.int .i64 7, .int .i64 (3 + p + s + s + k), .int .i64 (k * d)]) w := fun _ => by kernel_rfl
  have Z := Live.nil w.heap.size
  go_enter Tryz.func76, Tryz.ntmps76
  go_wp2_with (first
    | (go_at_call 35; refine (may_c _ _ _ _ _ _ _).mono ?_; rintro e w' ⟨rfl, h1⟩; rw [HM.out]; have hc_ := fun (b o : Nat) (hb : b < _) => (h1).cell (b := b) (o := o) hb; have hf_ := fun (b o : Nat) (hb : b < _) => (h1).frozen (b := b) (o := o) hb; have hs_ := (h1).size; (try simp only [World.size_alloc, World.heap_drewN, World.size_drew, World.size_setCell] at hs_); (first | (with_reducible replace Z := Live.step0 Z hs_) | (with_reducible replace Z := Live.step1 Z hs_) | (with_reducible replace Z := Live.step2 Z hs_) | (with_reducible replace Z := Live.step3 Z hs_) | (with_reducible replace Z := Live.step4 Z hs_)); have z_ := Z; simp only [Live, List.forall_mem_cons, List.not_mem_nil, false_imp_iff, implies_true, and_true] at z_)
    | (go_at_call 36; refine (parts_c _ _ _ _ _ _ _ HM.out).mono ?_; rintro e w' ⟨rfl, h2⟩; have hc_ := fun (b o : Nat) (hb : b < _) => (h2).cell (b := b) (o := o) hb; have hf_ := fun (b o : Nat) (hb : b < _) => (h2).frozen (b := b) (o := o) hb; have hs_ := (h2).size; (try simp only [World.size_alloc, World.heap_drewN, World.size_drew, World.size_setCell] at hs_); (first | (with_reducible replace Z := Live.step0 Z hs_) | (with_reducible replace Z := Live.step1 Z hs_) | (with_reducible replace Z := Live.step2 Z hs_) | (with_reducible replace Z := Live.step3 Z hs_) | (with_reducible replace Z := Live.step4 Z hs_)); have z_ := Z; simp only [Live, List.forall_mem_cons, List.not_mem_nil, false_imp_iff, implies_true, and_true] at z_))
  refine wp_loop_rounds 6 ?_
  repeat (rw [rounds_succ]; go_wp2_with (first | (go_at_call 74; refine (lwithin_t _ _ _ _ ?_ ?_).mono ?_; omega; omega; rintro e w' ⟨rfl, rfl⟩) | (go_at_call 74; refine (lwithin_f _ _ _ _ ?_).mono ?_; omega; rintro e w' ⟨rfl, rfl⟩)))
  go_ret
  exact ⟨rfl, by ((repeat' (first | (with_reducible exact Keeps.refl _) | (with_reducible assumption) | (with_reducible refine Keeps.drewN ?_ _) | (with_reducible refine Keeps.drew ?_) | (with_reducible refine Keeps.alloc ?_ _) | (with_reducible refine Keeps.setCell ?_ ?_ _) | (with_reducible refine Keeps.trans ?_ (After.keeps _)) | (with_reducible refine Keeps.trans ?_ (by with_reducible assumption)) | go_size)); (first | done | fail))⟩

set_option maxHeartbeats 1000000 in
theorem cell7_t (p k d s c b n : Int) (w : World) (h : mayB p k d s c b = true) (n0 : 0 ≤ n) (n1 : n < (k * d)) : Calls Tryz.prog 76 #[.agg #[.int .i64 p, .int .i64 k, .int .i64 d, .int .i64 s, .int .i64 c, .int .i64 b], .int .i64 7, .int .i64 n] w fun e w' => e = .returned (.int .i64 (3 + p + s + s + k + n)) ∧ Keeps w w' := by
  obtain ⟨⟨p0, p1⟩, ⟨k0, k1⟩, ⟨d0, d1⟩, -, ⟨s0, s1⟩, ⟨c0, c1⟩, b0, b1⟩ := mayB_true.1 h
  obtain ⟨q0, q1⟩ := prod_bd k0 k1 d0 d1
  have HM := Lib.hid h
  clear h
  have I0 : ∀ w, (Instr.index 96 (.agg #[.int .i64 3, .int .i64 3, .int .i64 p, .int .i64 4, .int .i64 (3 + p), .int .i64 s, .int .i64 5, .int .i64 (3 + p + s), .int .i64 s, .int .i64 6, .int .i64 (3 + p + s + s), .int .i64 k, .int .i64 7, .int .i64 (3 + p + s + s + k), .int .i64 (k * d)]) (.int .i64 0)).run Tryz.prog w = .ok (.agg #[.int .i64 3, .int .i64 3, .int .i64 p]) w := fun _ => by kernel_rfl
  have I1 : ∀ w, (Instr.index 96 (.agg #[.int .i64 3, .int .i64 3, .int .i64 p, .int .i64 4, .int .i64 (3 + p), .int .i64 s, .int .i64 5, .int .i64 (3 + p + s), .int .i64 s, .int .i64 6, .int .i64 (3 + p + s + s), .int .i64 k, .int .i64 7, .int .i64 (3 + p + s + s + k), .int .i64 (k * d)]) (.int .i64 1)).run Tryz.prog w = .ok (.agg #[.int .i64 4, .int .i64 (3 + p), .int .i64 s]) w := fun _ => by kernel_rfl
  have I2 : ∀ w, (Instr.index 96 (.agg #[.int .i64 3, .int .i64 3, .int .i64 p, .int .i64 4, .int .i64 (3 + p), .int .i64 s, .int .i64 5, .int .i64 (3 + p + s), .int .i64 s, .int .i64 6, .int .i64 (3 + p + s + s), .int .i64 k, .int .i64 7, .int .i64 (3 + p + s + s + k), .int .i64 (k * d)]) (.int .i64 2)).run Tryz.prog w = .ok (.agg #[.int .i64 5, .int .i64 (3 + p + s), .int .i64 s]) w := fun _ => by kernel_rfl
  have I3 : ∀ w, (Instr.index 96 (.agg #[.int .i64 3, .int .i64 3, .int .i64 p, .int .i64 4, .int .i64 (3 + p), .int .i64 s, .int .i64 5, .int .i64 (3 + p + s), .int .i64 s, .int .i64 6, .int .i64 (3 + p + s + s), .int .i64 k, .int .i64 7, .int .i64 (3 + p + s + s + k), .int .i64 (k * d)]) (.int .i64 3)).run Tryz.prog w = .ok (.agg #[.int .i64 6, .int .i64 (3 + p + s + s), .int .i64 k]) w := fun _ => by kernel_rfl
  have I4 : ∀ w, (Instr.index 96 (.agg #[.int .i64 3, .int .i64 3, .int .i64 p, .int .i64 4, .int .i64 (3 + p), .int .i64 s, .int .i64 5, .int .i64 (3 + p + s), .int .i64 s, .int .i64 6, .int .i64 (3 + p + s + s), .int .i64 k, .int .i64 7, .int .i64 (3 + p + s + s + k), .int .i64 (k * d)]) (.int .i64 4)).run Tryz.prog w = .ok (.agg #[.int .i64 7, .int .i64 (3 + p + s + s + k), .int .i64 (k * d)]) w := fun _ => by kernel_rfl
  have Z := Live.nil w.heap.size
  go_enter Tryz.func76, Tryz.ntmps76
  go_wp2_with (first
    | (go_at_call 35; refine (may_c _ _ _ _ _ _ _).mono ?_; rintro e w' ⟨rfl, h1⟩; rw [HM.out]; have hc_ := fun (b o : Nat) (hb : b < _) => (h1).cell (b := b) (o := o) hb; have hf_ := fun (b o : Nat) (hb : b < _) => (h1).frozen (b := b) (o := o) hb; have hs_ := (h1).size; (try simp only [World.size_alloc, World.heap_drewN, World.size_drew, World.size_setCell] at hs_); (first | (with_reducible replace Z := Live.step0 Z hs_) | (with_reducible replace Z := Live.step1 Z hs_) | (with_reducible replace Z := Live.step2 Z hs_) | (with_reducible replace Z := Live.step3 Z hs_) | (with_reducible replace Z := Live.step4 Z hs_)); have z_ := Z; simp only [Live, List.forall_mem_cons, List.not_mem_nil, false_imp_iff, implies_true, and_true] at z_)
    | (go_at_call 36; refine (parts_c _ _ _ _ _ _ _ HM.out).mono ?_; rintro e w' ⟨rfl, h2⟩; have hc_ := fun (b o : Nat) (hb : b < _) => (h2).cell (b := b) (o := o) hb; have hf_ := fun (b o : Nat) (hb : b < _) => (h2).frozen (b := b) (o := o) hb; have hs_ := (h2).size; (try simp only [World.size_alloc, World.heap_drewN, World.size_drew, World.size_setCell] at hs_); (first | (with_reducible replace Z := Live.step0 Z hs_) | (with_reducible replace Z := Live.step1 Z hs_) | (with_reducible replace Z := Live.step2 Z hs_) | (with_reducible replace Z := Live.step3 Z hs_) | (with_reducible replace Z := Live.step4 Z hs_)); have z_ := Z; simp only [Live, List.forall_mem_cons, List.not_mem_nil, false_imp_iff, implies_true, and_true] at z_))
  refine wp_loop_rounds 6 ?_
  repeat (rw [rounds_succ]; go_wp2_with (first | (go_at_call 74; refine (lwithin_t _ _ _ _ ?_ ?_).mono ?_; omega; omega; rintro e w' ⟨rfl, rfl⟩) | (go_at_call 74; refine (lwithin_f _ _ _ _ ?_).mono ?_; omega; rintro e w' ⟨rfl, rfl⟩)))
  go_ret
  exact ⟨rfl, by ((repeat' (first | (with_reducible exact Keeps.refl _) | (with_reducible assumption) | (with_reducible refine Keeps.drewN ?_ _) | (with_reducible refine Keeps.drew ?_) | (with_reducible refine Keeps.alloc ?_ _) | (with_reducible refine Keeps.setCell ?_ ?_ _) | (with_reducible refine Keeps.trans ?_ (After.keeps _)) | (with_reducible refine Keeps.trans ?_ (by with_reducible assumption)) | go_size)); (first | done | fail))⟩

set_option maxHeartbeats 1000000 in
theorem cell7_f (p k d s c b n : Int) (w : World) (h : mayB p k d s c b = true) (hn : n < 0 ∨ (k * d) ≤ n) : Calls Tryz.prog 76 #[.agg #[.int .i64 p, .int .i64 k, .int .i64 d, .int .i64 s, .int .i64 c, .int .i64 b], .int .i64 7, .int .i64 n] w fun e w' => e = .returned (.int .i64 (-1)) ∧ Keeps w w' := by
  obtain ⟨⟨p0, p1⟩, ⟨k0, k1⟩, ⟨d0, d1⟩, -, ⟨s0, s1⟩, ⟨c0, c1⟩, b0, b1⟩ := mayB_true.1 h
  obtain ⟨q0, q1⟩ := prod_bd k0 k1 d0 d1
  have HM := Lib.hid h
  clear h
  have I0 : ∀ w, (Instr.index 96 (.agg #[.int .i64 3, .int .i64 3, .int .i64 p, .int .i64 4, .int .i64 (3 + p), .int .i64 s, .int .i64 5, .int .i64 (3 + p + s), .int .i64 s, .int .i64 6, .int .i64 (3 + p + s + s), .int .i64 k, .int .i64 7, .int .i64 (3 + p + s + s + k), .int .i64 (k * d)]) (.int .i64 0)).run Tryz.prog w = .ok (.agg #[.int .i64 3, .int .i64 3, .int .i64 p]) w := fun _ => by kernel_rfl
  have I1 : ∀ w, (Instr.index 96 (.agg #[.int .i64 3, .int .i64 3, .int .i64 p, .int .i64 4, .int .i64 (3 + p), .int .i64 s, .int .i64 5, .int .i64 (3 + p + s), .int .i64 s, .int .i64 6, .int .i64 (3 + p + s + s), .int .i64 k, .int .i64 7, .int .i64 (3 + p + s + s + k), .int .i64 (k * d)]) (.int .i64 1)).run Tryz.prog w = .ok (.agg #[.int .i64 4, .int .i64 (3 + p), .int .i64 s]) w := fun _ => by kernel_rfl
  have I2 : ∀ w, (Instr.index 96 (.agg #[.int .i64 3, .int .i64 3, .int .i64 p, .int .i64 4, .int .i64 (3 + p), .int .i64 s, .int .i64 5, .int .i64 (3 + p + s), .int .i64 s, .int .i64 6, .int .i64 (3 + p + s + s), .int .i64 k, .int .i64 7, .int .i64 (3 + p + s + s + k), .int .i64 (k * d)]) (.int .i64 2)).run Tryz.prog w = .ok (.agg #[.int .i64 5, .int .i64 (3 + p + s), .int .i64 s]) w := fun _ => by kernel_rfl
  have I3 : ∀ w, (Instr.index 96 (.agg #[.int .i64 3, .int .i64 3, .int .i64 p, .int .i64 4, .int .i64 (3 + p), .int .i64 s, .int .i64 5, .int .i64 (3 + p + s), .int .i64 s, .int .i64 6, .int .i64 (3 + p + s + s), .int .i64 k, .int .i64 7, .int .i64 (3 + p + s + s + k), .int .i64 (k * d)]) (.int .i64 3)).run Tryz.prog w = .ok (.agg #[.int .i64 6, .int .i64 (3 + p + s + s), .int .i64 k]) w := fun _ => by kernel_rfl
  have I4 : ∀ w, (Instr.index 96 (.agg #[.int .i64 3, .int .i64 3, .int .i64 p, .int .i64 4, .int .i64 (3 + p), .int .i64 s, .int .i64 5, .int .i64 (3 + p + s), .int .i64 s, .int .i64 6, .int .i64 (3 + p + s + s), .int .i64 k, .int .i64 7, .int .i64 (3 + p + s + s + k), .int .i64 (k * d)]) (.int .i64 4)).run Tryz.prog w = .ok (.agg #[.int .i64 7, .int .i64 (3 + p + s + s + k), .int .i64 (k * d)]) w := fun _ => by kernel_rfl
  have Z := Live.nil w.heap.size
  go_enter Tryz.func76, Tryz.ntmps76
  go_wp2_with (first
    | (go_at_call 35; refine (may_c _ _ _ _ _ _ _).mono ?_; rintro e w' ⟨rfl, h1⟩; rw [HM.out]; have hc_ := fun (b o : Nat) (hb : b < _) => (h1).cell (b := b) (o := o) hb; have hf_ := fun (b o : Nat) (hb : b < _) => (h1).frozen (b := b) (o := o) hb; have hs_ := (h1).size; (try simp only [World.size_alloc, World.heap_drewN, World.size_drew, World.size_setCell] at hs_); (first | (with_reducible replace Z := Live.step0 Z hs_) | (with_reducible replace Z := Live.step1 Z hs_) | (with_reducible replace Z := Live.step2 Z hs_) | (with_reducible replace Z := Live.step3 Z hs_) | (with_reducible replace Z := Live.step4 Z hs_)); have z_ := Z; simp only [Live, List.forall_mem_cons, List.not_mem_nil, false_imp_iff, implies_true, and_true] at z_)
    | (go_at_call 36; refine (parts_c _ _ _ _ _ _ _ HM.out).mono ?_; rintro e w' ⟨rfl, h2⟩; have hc_ := fun (b o : Nat) (hb : b < _) => (h2).cell (b := b) (o := o) hb; have hf_ := fun (b o : Nat) (hb : b < _) => (h2).frozen (b := b) (o := o) hb; have hs_ := (h2).size; (try simp only [World.size_alloc, World.heap_drewN, World.size_drew, World.size_setCell] at hs_); (first | (with_reducible replace Z := Live.step0 Z hs_) | (with_reducible replace Z := Live.step1 Z hs_) | (with_reducible replace Z := Live.step2 Z hs_) | (with_reducible replace Z := Live.step3 Z hs_) | (with_reducible replace Z := Live.step4 Z hs_)); have z_ := Z; simp only [Live, List.forall_mem_cons, List.not_mem_nil, false_imp_iff, implies_true, and_true] at z_))
  refine wp_loop_rounds 6 ?_
  repeat (rw [rounds_succ]; go_wp2_with (first | (go_at_call 74; refine (lwithin_t _ _ _ _ ?_ ?_).mono ?_; omega; omega; rintro e w' ⟨rfl, rfl⟩) | (go_at_call 74; refine (lwithin_f _ _ _ _ ?_).mono ?_; omega; rintro e w' ⟨rfl, rfl⟩)))
  go_ret
  exact ⟨rfl, by ((repeat' (first | (with_reducible exact Keeps.refl _) | (with_reducible assumption) | (with_reducible refine Keeps.drewN ?_ _) | (with_reducible refine Keeps.drew ?_) | (with_reducible refine Keeps.alloc ?_ _) | (with_reducible refine Keeps.setCell ?_ ?_ _) | (with_reducible refine Keeps.trans ?_ (After.keeps _)) | (with_reducible refine Keeps.trans ?_ (by with_reducible assumption)) | go_size)); (first | done | fail))⟩

theorem cell_no (p k d s c b q n : Int) (w : World) (h : mayB p k d s c b = false) : Calls Tryz.prog 76 #[.agg #[.int .i64 p, .int .i64 k, .int .i64 d, .int .i64 s, .int .i64 c, .int .i64 b], .int .i64 q, .int .i64 n] w fun e w' => e = .returned (.int .i64 (-1)) ∧ Keeps w w' := by
  have HM := Lib.hid h
  clear h
  go_enter Tryz.func76, Tryz.ntmps76
  go_wp2_with (go_at_call 35; refine (may_c _ _ _ _ _ _ _).mono ?_; rintro e w' ⟨rfl, h1⟩; rw [HM.out])
  go_ret
  exact ⟨rfl, by ((repeat' (first | (with_reducible exact Keeps.refl _) | (with_reducible assumption) | (with_reducible refine Keeps.drewN ?_ _) | (with_reducible refine Keeps.drew ?_) | (with_reducible refine Keeps.alloc ?_ _) | (with_reducible refine Keeps.setCell ?_ ?_ _) | (with_reducible refine Keeps.trans ?_ (After.keeps _)) | (with_reducible refine Keeps.trans ?_ (by with_reducible assumption)) | go_size)); (first | done | fail))⟩

/-- How many cells. -/
def lenI (p k d s c b : Int) : Int := if mayB p k d s c b then 3 + p + 2 * s + k + k * d else 0
theorem len_c (p k d s c b : Int) (w : World) : Calls Tryz.prog 8 #[.agg #[.int .i64 p, .int .i64 k, .int .i64 d, .int .i64 s, .int .i64 c, .int .i64 b]] w fun e w' => e = .returned (.int .i64 (lenI p k d s c b)) ∧ Keeps w w' := by
  cases h : mayB p k d s c b with
  | false =>
    have e : lenI p k d s c b = 0 := by unfold lenI; rw [h]; rfl
    rw [e]
    have H := Lib.hid h
    clear h e
    go_enter Tryz.func8, Tryz.ntmps8
    go_wp2_with (go_at_call 35; refine (may_c _ _ _ _ _ _ _).mono ?_; rintro e w' ⟨rfl, h1⟩; rw [H.out])
    go_ret
    exact ⟨rfl, by ((repeat' (first | (with_reducible exact Keeps.refl _) | (with_reducible assumption) | (with_reducible refine Keeps.drewN ?_ _) | (with_reducible refine Keeps.drew ?_) | (with_reducible refine Keeps.alloc ?_ _) | (with_reducible refine Keeps.setCell ?_ ?_ _) | (with_reducible refine Keeps.trans ?_ (After.keeps _)) | (with_reducible refine Keeps.trans ?_ (by with_reducible assumption)) | go_size)); (first | done | fail))⟩
  | true =>
    have e : lenI p k d s c b = 3 + p + s + s + k + k * d := by unfold lenI; rw [h]; simp; omega
    rw [e]
    obtain ⟨⟨p0, p1⟩, ⟨k0, k1⟩, ⟨d0, d1⟩, -, ⟨s0, s1⟩, ⟨c0, c1⟩, b0, b1⟩ := mayB_true.1 h
    obtain ⟨q0, q1⟩ := prod_bd k0 k1 d0 d1
    have H := Lib.hid h
    clear h e
    have Z := Live.nil w.heap.size
    go_enter Tryz.func8, Tryz.ntmps8
    go_wp2_with (first
      | (go_at_call 35; refine (may_c _ _ _ _ _ _ _).mono ?_; rintro e w' ⟨rfl, h1⟩; rw [H.out]; have hc_ := fun (b o : Nat) (hb : b < _) => (h1).cell (b := b) (o := o) hb; have hf_ := fun (b o : Nat) (hb : b < _) => (h1).frozen (b := b) (o := o) hb; have hs_ := (h1).size; (try simp only [World.size_alloc, World.heap_drewN, World.size_drew, World.size_setCell] at hs_); (first | (with_reducible replace Z := Live.step0 Z hs_) | (with_reducible replace Z := Live.step1 Z hs_) | (with_reducible replace Z := Live.step2 Z hs_) | (with_reducible replace Z := Live.step3 Z hs_) | (with_reducible replace Z := Live.step4 Z hs_)); have z_ := Z; simp only [Live, List.forall_mem_cons, List.not_mem_nil, false_imp_iff, implies_true, and_true] at z_)
      | (go_at_call 36; refine (parts_c _ _ _ _ _ _ _ H.out).mono ?_; rintro e w' ⟨rfl, h2⟩; have hc_ := fun (b o : Nat) (hb : b < _) => (h2).cell (b := b) (o := o) hb; have hf_ := fun (b o : Nat) (hb : b < _) => (h2).frozen (b := b) (o := o) hb; have hs_ := (h2).size; (try simp only [World.size_alloc, World.heap_drewN, World.size_drew, World.size_setCell] at hs_); (first | (with_reducible replace Z := Live.step0 Z hs_) | (with_reducible replace Z := Live.step1 Z hs_) | (with_reducible replace Z := Live.step2 Z hs_) | (with_reducible replace Z := Live.step3 Z hs_) | (with_reducible replace Z := Live.step4 Z hs_)); have z_ := Z; simp only [Live, List.forall_mem_cons, List.not_mem_nil, false_imp_iff, implies_true, and_true] at z_))
    go_ret
    exact ⟨rfl, by ((repeat' (first | (with_reducible exact Keeps.refl _) | (with_reducible assumption) | (with_reducible refine Keeps.drewN ?_ _) | (with_reducible refine Keeps.drew ?_) | (with_reducible refine Keeps.alloc ?_ _) | (with_reducible refine Keeps.setCell ?_ ?_ _) | (with_reducible refine Keeps.trans ?_ (After.keeps _)) | (with_reducible refine Keeps.trans ?_ (by with_reducible assumption)) | go_size)); (first | done | fail))⟩

theorem word_bd {k d u i : Int} (u0 : 0 ≤ u) (u1 : u < k) (d0 : 0 ≤ d) (i0 : 0 ≤ i) (i1 : i < d) : 0 ≤ u * d ∧ u * d + i < k * d := by
  have a := Int.mul_nonneg u0 d0
  have e := Int.mul_le_mul_of_nonneg_right (show u + 1 ≤ k by omega) d0
  rw [Int.add_mul] at e
  omega
/-- A word's cell. -/
def wordI (p k d s c b u i : Int) : Int := if mayB p k d s c b = true ∧ 0 ≤ u ∧ u < k ∧ 0 ≤ i ∧ i < d then 3 + p + 2 * s + k + u * d + i else -1
/-- What a cell is. -/
def whatI (p k d s c b x : Int) : Int × Int × Int :=
  if mayB p k d s c b = false ∨ x < 0 then (0, 0, 0) else if x < 2 then (1, x, 0) else if x = 2 then (2, 0, 0) else if x < 3 + p then (3, x - 3, 0) else
  if x < 3 + p + s then (4, x - (3 + p), 0) else if x < 3 + p + s + s then (5, x - (3 + p + s), 0) else if x < 3 + p + s + s + k then (6, x - (3 + p + s + s), 0) else
  if x < 3 + p + s + s + k + k * d then (7, (x - (3 + p + s + s + k)) / d, (x - (3 + p + s + s + k)) % d) else (0, 0, 0)

end Go.Proofs.YtaecapjicphdkaaGreat
