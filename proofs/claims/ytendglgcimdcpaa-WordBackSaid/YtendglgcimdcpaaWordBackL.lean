/- The law WordBack, walked. -/
import Derived.Test.YtendglgcimdcpaaWordL
import Derived.Test.YtendglgcimdcpaaHeap
namespace Go.Proofs.Ytendglgcimdcpaa
set_option linter.unusedVariables false
set_option linter.unusedSimpArgs false
open Go Go.RowKit
set_option maxRecDepth 100000

theorem headI_bd {a b : Int} (h : headB a b = true) : headI a b = b * 4294967296 + (a + 1) ∧ 0 ≤ headI a b ∧ headI a b < 18446744073709551616 := by
  have g := headB_true.1 h
  have e : headI a b = b * 4294967296 + (a + 1) := by unfold headI; rw [if_pos h]
  rw [e]; omega
theorem rootI_bd {a b c d : Int} (h : rootB a b c d = true) : rootI a b c d = a * 4294967296 + b * 65536 + c * 4096 + d ∧ 0 ≤ rootI a b c d ∧ rootI a b c d < 18446744073709551616 := by
  have g := rootB_true.1 h
  have e : rootI a b c d = a * 4294967296 + b * 65536 + c * 4096 + d := by unfold rootI; rw [if_pos h]
  rw [e]; omega
theorem getHead_at (a b : Int) (w : World) (h : headB a b = true) : Calls Try.prog 42 #[.int .u64 (headI a b)] w fun e w' => e = .returned (.agg #[.int .i64 a, .int .i64 b]) ∧ Keeps w w' := by
  obtain ⟨e, h0, h1⟩ := headI_bd h
  have g := headB_true.1 h
  have c := getHead_c (headI a b) w h0 h1
  have e1 : headI a b % 4294967296 - 1 = a := by rw [e]; omega
  have e2 : headI a b / 4294967296 = b := by rw [e]; omega
  rwa [e1, e2] at c
theorem getRoot_at (a b c d : Int) (w : World) (h : rootB a b c d = true) : Calls Try.prog 43 #[.int .u64 (rootI a b c d)] w fun e w' => e = .returned (.agg #[.int .i64 a, .int .i64 b, .int .i64 c, .int .i64 d]) ∧ Keeps w w' := by
  obtain ⟨e, h0, h1⟩ := rootI_bd h
  have g := rootB_true.1 h
  have k := getRoot_c (rootI a b c d) w h0 h1
  have e1 : rootI a b c d / 4294967296 = a := by rw [e]; omega
  have e2 : rootI a b c d / 65536 % 65536 = b := by rw [e]; omega
  have e3 : rootI a b c d / 4096 % 16 = c := by rw [e]; omega
  have e4 : rootI a b c d % 4096 = d := by rw [e]; omega
  rwa [e1, e2, e3, e4] at k
theorem getPin_at (a : Int) (w : World) (h : withinB a 0 4611686018427387903 = true) : Calls Try.prog 41 #[.int .u64 (pinI a)] w fun e w' => e = .returned (.tuple #[.int .i64 a, .bool true]) ∧ ∃ k, w' = w.drewN k := by
  have g := withinB_true.1 h
  have e : pinI a = 2 * a + 1 := by unfold pinI; rw [if_pos h]
  have k := getPin_c (pinI a) w (by rw [e]; omega) (by rw [e]; omega)
  have e1 : pinGet (pinI a) = a := by unfold pinGet; rw [e, if_neg (by omega)]; omega
  have e2 : (!(pinI a % 2 == 0)) = true := by rw [e, show (2 * a + 1) % 2 = 1 from by omega]; rfl
  rwa [e1, e2] at k
theorem getPin_zero (w : World) : Calls Try.prog 41 #[.int .u64 0] w fun e w' => e = .returned (.tuple #[.int .i64 0, .bool false]) ∧ ∃ k, w' = w.drewN k := getPin_c 0 w (by omega) (by omega)
theorem putHead_get (x : Int) (w : World) (h0 : 0 ≤ x) (h1 : x < 18446744073709551616) : Calls Try.prog 38 #[.agg #[.int .i64 (x % 4294967296 - 1), .int .i64 (x / 4294967296)]] w fun e w' => e = .returned (.tuple #[.int .u64 x, .bool true]) ∧ Keeps w w' := by
  have k := putHead_c (x % 4294967296 - 1) (x / 4294967296) w
  have e : headB (x % 4294967296 - 1) (x / 4294967296) = true := headB_true.2 (by omega)
  have e2 : headI (x % 4294967296 - 1) (x / 4294967296) = x := by unfold headI; rw [if_pos e]; omega
  rwa [e, e2] at k
def okRoot (x : Int) : Bool := rootB (x / 4294967296) (x / 65536 % 65536) (x / 4096 % 16) (x % 4096)
theorem putRoot_get (x : Int) (w : World) (h0 : 0 ≤ x) (h1 : x < 18446744073709551616) : Calls Try.prog 39 #[.agg #[.int .i64 (x / 4294967296), .int .i64 (x / 65536 % 65536), .int .i64 (x / 4096 % 16), .int .i64 (x % 4096)]] w fun e w' => e = .returned (.tuple #[.int .u64 (if okRoot x then x else 0), .bool (okRoot x)]) ∧ Keeps w w' := by
  have k := putRoot_c (x / 4294967296) (x / 65536 % 65536) (x / 4096 % 16) (x % 4096) w
  have e2 : rootI (x / 4294967296) (x / 65536 % 65536) (x / 4096 % 16) (x % 4096) = if okRoot x then x else 0 := by
    unfold rootI okRoot
    split
    · omega
    · rfl
  rwa [e2] at k

section
variable (ha hb ra rb rc rd d x : Int) (w : World)
set_option maxHeartbeats 2000000 in
theorem back000 (hp : headB ha hb = false) (hq : rootB ra rb rc rd = false) (hr : withinB d 0 4611686018427387903 = false) (x0 : 0 ≤ x) (x1 : x < 18446744073709551616) : Calls Try.prog 12 #[.agg #[.int .i64 ha, .int .i64 hb], .agg #[.int .i64 ra, .int .i64 rb, .int .i64 rc, .int .i64 rd], .int .i64 d, .int .u64 x] w fun e w' => e = .returned (.bool true) ∧ Keeps w w' := by
  have HP := Lib.hid hp
  have HQ := Lib.hid hq
  have HR := Lib.hid hr
  have HP0 : Hid (headI ha hb = 0) := Lib.hid (by unfold headI; rw [hp]; rfl)
  have HQ0 : Hid (rootI ra rb rc rd = 0) := Lib.hid (by unfold rootI; rw [hq]; rfl)
  have HR0 : Hid (pinI d = 0) := Lib.hid (by unfold pinI; rw [hr]; rfl)
  have HX : Hid (okRoot x = true → (if okRoot x then x else 0) = x) := Lib.hid (fun h => if_pos h)
  clear hp hq hr
  have Z := Live.nil w.heap.size
  go_enter Try.func12, Try.ntmps12
  go_wp2_with (first
    | (go_at_call 32; refine (wfirst_c _).mono ?_; rintro e w' ⟨rfl, h_f⟩; have hc_ := fun (b o : Nat) (hb : b < _) => (h_f).cell (b := b) (o := o) hb; have hf_ := fun (b o : Nat) (hb : b < _) => (h_f).frozen (b := b) (o := o) hb; have hs_ := (h_f).size; (try simp only [World.size_alloc, World.heap_drewN, World.size_drew, World.size_setCell] at hs_); (first | (with_reducible replace Z := Live.step0 Z hs_) | (with_reducible replace Z := Live.step1 Z hs_) | (with_reducible replace Z := Live.step2 Z hs_) | (with_reducible replace Z := Live.step3 Z hs_) | (with_reducible replace Z := Live.step4 Z hs_)); have z_ := Z; simp only [Live, List.forall_mem_cons, List.not_mem_nil, false_imp_iff, implies_true, and_true] at z_)
    | (go_at_call 38; refine (putHead_c _ _ _).mono ?_; rintro e w' ⟨rfl, h_h⟩; rw [HP.out, HP0.out]; have hc_ := fun (b o : Nat) (hb : b < _) => (h_h).cell (b := b) (o := o) hb; have hf_ := fun (b o : Nat) (hb : b < _) => (h_h).frozen (b := b) (o := o) hb; have hs_ := (h_h).size; (try simp only [World.size_alloc, World.heap_drewN, World.size_drew, World.size_setCell] at hs_); (first | (with_reducible replace Z := Live.step0 Z hs_) | (with_reducible replace Z := Live.step1 Z hs_) | (with_reducible replace Z := Live.step2 Z hs_) | (with_reducible replace Z := Live.step3 Z hs_) | (with_reducible replace Z := Live.step4 Z hs_)); have z_ := Z; simp only [Live, List.forall_mem_cons, List.not_mem_nil, false_imp_iff, implies_true, and_true] at z_)
    | (go_at_call 39; refine (putRoot_c _ _ _ _ _).mono ?_; rintro e w' ⟨rfl, h_r⟩; rw [HQ.out, HQ0.out]; have hc_ := fun (b o : Nat) (hb : b < _) => (h_r).cell (b := b) (o := o) hb; have hf_ := fun (b o : Nat) (hb : b < _) => (h_r).frozen (b := b) (o := o) hb; have hs_ := (h_r).size; (try simp only [World.size_alloc, World.heap_drewN, World.size_drew, World.size_setCell] at hs_); (first | (with_reducible replace Z := Live.step0 Z hs_) | (with_reducible replace Z := Live.step1 Z hs_) | (with_reducible replace Z := Live.step2 Z hs_) | (with_reducible replace Z := Live.step3 Z hs_) | (with_reducible replace Z := Live.step4 Z hs_)); have z_ := Z; simp only [Live, List.forall_mem_cons, List.not_mem_nil, false_imp_iff, implies_true, and_true] at z_)
    | (go_at_call 40; refine (putPin_c _ _).mono ?_; rintro e w' ⟨rfl, k1, rfl⟩; rw [HR.out, HR0.out])
    | (go_at_call 41; refine (getPin_zero _).mono ?_; rintro e w' ⟨rfl, k2, rfl⟩))
  have hX : ∀ (n : Nat) (u : After (w'.drewN n)), (u.world.cell? ⟨w.heap.size, 0, none⟩ = some (.int .i64 ha) ∧ u.world.cell? ⟨w.heap.size, 1, none⟩ = some (.int .i64 hb)) ∧ u.world.cell? ⟨w.heap.size + 1, 0, none⟩ = some (.int .i64 ra) ∧ u.world.cell? ⟨w.heap.size + 1, 1, none⟩ = some (.int .i64 rb) ∧ u.world.cell? ⟨w.heap.size + 1, 2, none⟩ = some (.int .i64 rc) ∧ u.world.cell? ⟨w.heap.size + 1, 3, none⟩ = some (.int .i64 rd) := by
    intro n u
    have K : Keeps ((w.alloc (.cells #[.int .i64 ha, .int .i64 hb] 50)).alloc (.cells #[.int .i64 ra, .int .i64 rb, .int .i64 rc, .int .i64 rd] 42)) u.world := by (repeat' (first | (with_reducible exact Keeps.refl _) | (with_reducible assumption) | (with_reducible refine Keeps.drewN ?_ _) | (with_reducible refine Keeps.drew ?_) | (with_reducible refine Keeps.alloc ?_ _) | (with_reducible refine Keeps.setCell ?_ ?_ _) | (with_reducible refine Keeps.trans ?_ (After.keeps _)) | (with_reducible refine Keeps.trans ?_ (by with_reducible assumption)) | go_size))
    have h1 := ((Has.new w #[.int .i64 ha, .int .i64 hb] 50).alloc (.cells #[.int .i64 ra, .int .i64 rb, .int .i64 rc, .int .i64 rd] 42)).keeps K
    have h2 := (Has.new1 w (.cells #[.int .i64 ha, .int .i64 hb] 50) #[.int .i64 ra, .int .i64 rb, .int .i64 rc, .int .i64 rd] 42).keeps K
    exact ⟨⟨h1.cell 0, h1.cell 1⟩, h2.cell 0, h2.cell 1, h2.cell 2, h2.cell 3⟩
  (refine wp_region_after_lit (by kernel_rfl) (by kernel_rfl) ?_; (try simp only [List.append_eq, List.cons_append, List.nil_append]); (repeat (first | go_big_quiet_step ((fail)) | ((with_reducible refine wpQuiet_step (fun K hK => ?_)); go_simp; first | (refine hK _ ?_; clear hK K) | (apply Exists.intro; refine ⟨fun _ => ?_, hK _ ?_⟩; (fail); clear hK K) | (refine ⟨.bool false, fun _ => ?_, hK _ ?_⟩; (simp; done); clear hK K) | (refine ⟨.bool true, fun _ => ?_, hK _ ?_⟩; (simp; done); clear hK K)))); refine wpQuiet_nil ?_; intro _ hw'; obtain ⟨uq, hw''⟩ := hw'; subst hw'')
  go_wp2_with (first
    | (go_at_call 42; refine (getHead_c _ _ x0 x1).mono ?_; rintro e w' ⟨rfl, h_g⟩;)
    | (go_at_call 38; refine (putHead_get _ _ x0 x1).mono ?_; rintro e w' ⟨rfl, h_h⟩;)
    | (go_at_call 43; refine (getRoot_c _ _ x0 x1).mono ?_; rintro e w' ⟨rfl, h_g⟩;)
    | (go_at_call 39; refine (putRoot_get _ _ x0 x1).mono ?_; rintro e w' ⟨rfl, h_r⟩;))
  all_goals go_ret
  all_goals exact ⟨rfl, by (repeat' (first | (with_reducible exact Keeps.refl _) | (with_reducible assumption) | (with_reducible refine Keeps.drewN ?_ _) | (with_reducible refine Keeps.drew ?_) | (with_reducible refine Keeps.alloc ?_ _) | (with_reducible refine Keeps.setCell ?_ ?_ _) | (with_reducible refine Keeps.trans ?_ (After.keeps _)) | (with_reducible refine Keeps.trans ?_ (by with_reducible assumption)) | go_size))⟩

set_option maxHeartbeats 2000000 in
theorem back001 (hp : headB ha hb = false) (hq : rootB ra rb rc rd = false) (hr : withinB d 0 4611686018427387903 = true) (x0 : 0 ≤ x) (x1 : x < 18446744073709551616) : Calls Try.prog 12 #[.agg #[.int .i64 ha, .int .i64 hb], .agg #[.int .i64 ra, .int .i64 rb, .int .i64 rc, .int .i64 rd], .int .i64 d, .int .u64 x] w fun e w' => e = .returned (.bool true) ∧ Keeps w w' := by
  have HP := Lib.hid hp
  have HQ := Lib.hid hq
  have HR := Lib.hid hr
  have HP0 : Hid (headI ha hb = 0) := Lib.hid (by unfold headI; rw [hp]; rfl)
  have HQ0 : Hid (rootI ra rb rc rd = 0) := Lib.hid (by unfold rootI; rw [hq]; rfl)
  have HX : Hid (okRoot x = true → (if okRoot x then x else 0) = x) := Lib.hid (fun h => if_pos h)
  clear hp hq hr
  have Z := Live.nil w.heap.size
  go_enter Try.func12, Try.ntmps12
  go_wp2_with (first
    | (go_at_call 32; refine (wfirst_c _).mono ?_; rintro e w' ⟨rfl, h_f⟩; have hc_ := fun (b o : Nat) (hb : b < _) => (h_f).cell (b := b) (o := o) hb; have hf_ := fun (b o : Nat) (hb : b < _) => (h_f).frozen (b := b) (o := o) hb; have hs_ := (h_f).size; (try simp only [World.size_alloc, World.heap_drewN, World.size_drew, World.size_setCell] at hs_); (first | (with_reducible replace Z := Live.step0 Z hs_) | (with_reducible replace Z := Live.step1 Z hs_) | (with_reducible replace Z := Live.step2 Z hs_) | (with_reducible replace Z := Live.step3 Z hs_) | (with_reducible replace Z := Live.step4 Z hs_)); have z_ := Z; simp only [Live, List.forall_mem_cons, List.not_mem_nil, false_imp_iff, implies_true, and_true] at z_)
    | (go_at_call 38; refine (putHead_c _ _ _).mono ?_; rintro e w' ⟨rfl, h_h⟩; rw [HP.out, HP0.out]; have hc_ := fun (b o : Nat) (hb : b < _) => (h_h).cell (b := b) (o := o) hb; have hf_ := fun (b o : Nat) (hb : b < _) => (h_h).frozen (b := b) (o := o) hb; have hs_ := (h_h).size; (try simp only [World.size_alloc, World.heap_drewN, World.size_drew, World.size_setCell] at hs_); (first | (with_reducible replace Z := Live.step0 Z hs_) | (with_reducible replace Z := Live.step1 Z hs_) | (with_reducible replace Z := Live.step2 Z hs_) | (with_reducible replace Z := Live.step3 Z hs_) | (with_reducible replace Z := Live.step4 Z hs_)); have z_ := Z; simp only [Live, List.forall_mem_cons, List.not_mem_nil, false_imp_iff, implies_true, and_true] at z_)
    | (go_at_call 39; refine (putRoot_c _ _ _ _ _).mono ?_; rintro e w' ⟨rfl, h_r⟩; rw [HQ.out, HQ0.out]; have hc_ := fun (b o : Nat) (hb : b < _) => (h_r).cell (b := b) (o := o) hb; have hf_ := fun (b o : Nat) (hb : b < _) => (h_r).frozen (b := b) (o := o) hb; have hs_ := (h_r).size; (try simp only [World.size_alloc, World.heap_drewN, World.size_drew, World.size_setCell] at hs_); (first | (with_reducible replace Z := Live.step0 Z hs_) | (with_reducible replace Z := Live.step1 Z hs_) | (with_reducible replace Z := Live.step2 Z hs_) | (with_reducible replace Z := Live.step3 Z hs_) | (with_reducible replace Z := Live.step4 Z hs_)); have z_ := Z; simp only [Live, List.forall_mem_cons, List.not_mem_nil, false_imp_iff, implies_true, and_true] at z_)
    | (go_at_call 40; refine (putPin_c _ _).mono ?_; rintro e w' ⟨rfl, k1, rfl⟩; rw [HR.out])
    | (go_at_call 41; refine (getPin_at _ _ HR.out).mono ?_; rintro e w' ⟨rfl, k2, rfl⟩))
  have hX : ∀ (n : Nat) (u : After (w'.drewN n)), (u.world.cell? ⟨w.heap.size, 0, none⟩ = some (.int .i64 ha) ∧ u.world.cell? ⟨w.heap.size, 1, none⟩ = some (.int .i64 hb)) ∧ u.world.cell? ⟨w.heap.size + 1, 0, none⟩ = some (.int .i64 ra) ∧ u.world.cell? ⟨w.heap.size + 1, 1, none⟩ = some (.int .i64 rb) ∧ u.world.cell? ⟨w.heap.size + 1, 2, none⟩ = some (.int .i64 rc) ∧ u.world.cell? ⟨w.heap.size + 1, 3, none⟩ = some (.int .i64 rd) := by
    intro n u
    have K : Keeps ((w.alloc (.cells #[.int .i64 ha, .int .i64 hb] 50)).alloc (.cells #[.int .i64 ra, .int .i64 rb, .int .i64 rc, .int .i64 rd] 42)) u.world := by (repeat' (first | (with_reducible exact Keeps.refl _) | (with_reducible assumption) | (with_reducible refine Keeps.drewN ?_ _) | (with_reducible refine Keeps.drew ?_) | (with_reducible refine Keeps.alloc ?_ _) | (with_reducible refine Keeps.setCell ?_ ?_ _) | (with_reducible refine Keeps.trans ?_ (After.keeps _)) | (with_reducible refine Keeps.trans ?_ (by with_reducible assumption)) | go_size))
    have h1 := ((Has.new w #[.int .i64 ha, .int .i64 hb] 50).alloc (.cells #[.int .i64 ra, .int .i64 rb, .int .i64 rc, .int .i64 rd] 42)).keeps K
    have h2 := (Has.new1 w (.cells #[.int .i64 ha, .int .i64 hb] 50) #[.int .i64 ra, .int .i64 rb, .int .i64 rc, .int .i64 rd] 42).keeps K
    exact ⟨⟨h1.cell 0, h1.cell 1⟩, h2.cell 0, h2.cell 1, h2.cell 2, h2.cell 3⟩
  (refine wp_region_after_lit (by kernel_rfl) (by kernel_rfl) ?_; (try simp only [List.append_eq, List.cons_append, List.nil_append]); (repeat (first | go_big_quiet_step ((fail)) | ((with_reducible refine wpQuiet_step (fun K hK => ?_)); go_simp; first | (refine hK _ ?_; clear hK K) | (apply Exists.intro; refine ⟨fun _ => ?_, hK _ ?_⟩; (fail); clear hK K) | (refine ⟨.bool false, fun _ => ?_, hK _ ?_⟩; (simp; done); clear hK K) | (refine ⟨.bool true, fun _ => ?_, hK _ ?_⟩; (simp; done); clear hK K)))); refine wpQuiet_nil ?_; intro _ hw'; obtain ⟨uq, hw''⟩ := hw'; subst hw'')
  go_wp2_with (first
    | (go_at_call 42; refine (getHead_c _ _ x0 x1).mono ?_; rintro e w' ⟨rfl, h_g⟩;)
    | (go_at_call 38; refine (putHead_get _ _ x0 x1).mono ?_; rintro e w' ⟨rfl, h_h⟩;)
    | (go_at_call 43; refine (getRoot_c _ _ x0 x1).mono ?_; rintro e w' ⟨rfl, h_g⟩;)
    | (go_at_call 39; refine (putRoot_get _ _ x0 x1).mono ?_; rintro e w' ⟨rfl, h_r⟩;))
  all_goals go_ret
  all_goals exact ⟨rfl, by (repeat' (first | (with_reducible exact Keeps.refl _) | (with_reducible assumption) | (with_reducible refine Keeps.drewN ?_ _) | (with_reducible refine Keeps.drew ?_) | (with_reducible refine Keeps.alloc ?_ _) | (with_reducible refine Keeps.setCell ?_ ?_ _) | (with_reducible refine Keeps.trans ?_ (After.keeps _)) | (with_reducible refine Keeps.trans ?_ (by with_reducible assumption)) | go_size))⟩

set_option maxHeartbeats 2000000 in
theorem back010 (hp : headB ha hb = false) (hq : rootB ra rb rc rd = true) (hr : withinB d 0 4611686018427387903 = false) (x0 : 0 ≤ x) (x1 : x < 18446744073709551616) : Calls Try.prog 12 #[.agg #[.int .i64 ha, .int .i64 hb], .agg #[.int .i64 ra, .int .i64 rb, .int .i64 rc, .int .i64 rd], .int .i64 d, .int .u64 x] w fun e w' => e = .returned (.bool true) ∧ Keeps w w' := by
  have HP := Lib.hid hp
  have HQ := Lib.hid hq
  have HR := Lib.hid hr
  have HP0 : Hid (headI ha hb = 0) := Lib.hid (by unfold headI; rw [hp]; rfl)
  have HR0 : Hid (pinI d = 0) := Lib.hid (by unfold pinI; rw [hr]; rfl)
  have HX : Hid (okRoot x = true → (if okRoot x then x else 0) = x) := Lib.hid (fun h => if_pos h)
  clear hp hq hr
  have Z := Live.nil w.heap.size
  go_enter Try.func12, Try.ntmps12
  go_wp2_with (first
    | (go_at_call 32; refine (wfirst_c _).mono ?_; rintro e w' ⟨rfl, h_f⟩; have hc_ := fun (b o : Nat) (hb : b < _) => (h_f).cell (b := b) (o := o) hb; have hf_ := fun (b o : Nat) (hb : b < _) => (h_f).frozen (b := b) (o := o) hb; have hs_ := (h_f).size; (try simp only [World.size_alloc, World.heap_drewN, World.size_drew, World.size_setCell] at hs_); (first | (with_reducible replace Z := Live.step0 Z hs_) | (with_reducible replace Z := Live.step1 Z hs_) | (with_reducible replace Z := Live.step2 Z hs_) | (with_reducible replace Z := Live.step3 Z hs_) | (with_reducible replace Z := Live.step4 Z hs_)); have z_ := Z; simp only [Live, List.forall_mem_cons, List.not_mem_nil, false_imp_iff, implies_true, and_true] at z_)
    | (go_at_call 38; refine (putHead_c _ _ _).mono ?_; rintro e w' ⟨rfl, h_h⟩; rw [HP.out, HP0.out]; have hc_ := fun (b o : Nat) (hb : b < _) => (h_h).cell (b := b) (o := o) hb; have hf_ := fun (b o : Nat) (hb : b < _) => (h_h).frozen (b := b) (o := o) hb; have hs_ := (h_h).size; (try simp only [World.size_alloc, World.heap_drewN, World.size_drew, World.size_setCell] at hs_); (first | (with_reducible replace Z := Live.step0 Z hs_) | (with_reducible replace Z := Live.step1 Z hs_) | (with_reducible replace Z := Live.step2 Z hs_) | (with_reducible replace Z := Live.step3 Z hs_) | (with_reducible replace Z := Live.step4 Z hs_)); have z_ := Z; simp only [Live, List.forall_mem_cons, List.not_mem_nil, false_imp_iff, implies_true, and_true] at z_)
    | (go_at_call 39; refine (putRoot_c _ _ _ _ _).mono ?_; rintro e w' ⟨rfl, h_r⟩; rw [HQ.out]; have hc_ := fun (b o : Nat) (hb : b < _) => (h_r).cell (b := b) (o := o) hb; have hf_ := fun (b o : Nat) (hb : b < _) => (h_r).frozen (b := b) (o := o) hb; have hs_ := (h_r).size; (try simp only [World.size_alloc, World.heap_drewN, World.size_drew, World.size_setCell] at hs_); (first | (with_reducible replace Z := Live.step0 Z hs_) | (with_reducible replace Z := Live.step1 Z hs_) | (with_reducible replace Z := Live.step2 Z hs_) | (with_reducible replace Z := Live.step3 Z hs_) | (with_reducible replace Z := Live.step4 Z hs_)); have z_ := Z; simp only [Live, List.forall_mem_cons, List.not_mem_nil, false_imp_iff, implies_true, and_true] at z_)
    | (go_at_call 40; refine (putPin_c _ _).mono ?_; rintro e w' ⟨rfl, k1, rfl⟩; rw [HR.out, HR0.out])
    | (go_at_call 41; refine (getPin_zero _).mono ?_; rintro e w' ⟨rfl, k2, rfl⟩))
  have hX : ∀ (n : Nat) (u : After (w'.drewN n)), (u.world.cell? ⟨w.heap.size, 0, none⟩ = some (.int .i64 ha) ∧ u.world.cell? ⟨w.heap.size, 1, none⟩ = some (.int .i64 hb)) ∧ u.world.cell? ⟨w.heap.size + 1, 0, none⟩ = some (.int .i64 ra) ∧ u.world.cell? ⟨w.heap.size + 1, 1, none⟩ = some (.int .i64 rb) ∧ u.world.cell? ⟨w.heap.size + 1, 2, none⟩ = some (.int .i64 rc) ∧ u.world.cell? ⟨w.heap.size + 1, 3, none⟩ = some (.int .i64 rd) := by
    intro n u
    have K : Keeps ((w.alloc (.cells #[.int .i64 ha, .int .i64 hb] 50)).alloc (.cells #[.int .i64 ra, .int .i64 rb, .int .i64 rc, .int .i64 rd] 42)) u.world := by (repeat' (first | (with_reducible exact Keeps.refl _) | (with_reducible assumption) | (with_reducible refine Keeps.drewN ?_ _) | (with_reducible refine Keeps.drew ?_) | (with_reducible refine Keeps.alloc ?_ _) | (with_reducible refine Keeps.setCell ?_ ?_ _) | (with_reducible refine Keeps.trans ?_ (After.keeps _)) | (with_reducible refine Keeps.trans ?_ (by with_reducible assumption)) | go_size))
    have h1 := ((Has.new w #[.int .i64 ha, .int .i64 hb] 50).alloc (.cells #[.int .i64 ra, .int .i64 rb, .int .i64 rc, .int .i64 rd] 42)).keeps K
    have h2 := (Has.new1 w (.cells #[.int .i64 ha, .int .i64 hb] 50) #[.int .i64 ra, .int .i64 rb, .int .i64 rc, .int .i64 rd] 42).keeps K
    exact ⟨⟨h1.cell 0, h1.cell 1⟩, h2.cell 0, h2.cell 1, h2.cell 2, h2.cell 3⟩
  (refine wp_region_after_lit (by kernel_rfl) (by kernel_rfl) ?_; (try simp only [List.append_eq, List.cons_append, List.nil_append]); (repeat (first | go_big_quiet_step ((first | (go_at_call 43; exact calls_after (getRoot_at _ _ _ _ _ HQ.out)))) | ((with_reducible refine wpQuiet_step (fun K hK => ?_)); go_simp; first | (refine hK _ ?_; clear hK K) | (apply Exists.intro; refine ⟨fun _ => ?_, hK _ ?_⟩; (first | (go_at_call 43; exact calls_after (getRoot_at _ _ _ _ _ HQ.out))); clear hK K) | (refine ⟨.bool false, fun _ => ?_, hK _ ?_⟩; (simp; done); clear hK K) | (refine ⟨.bool true, fun _ => ?_, hK _ ?_⟩; (simp; done); clear hK K)))); refine wpQuiet_nil ?_; intro _ hw'; obtain ⟨uq, hw''⟩ := hw'; subst hw'')
  go_wp2_with (first
    | (go_at_call 42; refine (getHead_c _ _ x0 x1).mono ?_; rintro e w' ⟨rfl, h_g⟩;)
    | (go_at_call 38; refine (putHead_get _ _ x0 x1).mono ?_; rintro e w' ⟨rfl, h_h⟩;)
    | (go_at_call 43; refine (getRoot_c _ _ x0 x1).mono ?_; rintro e w' ⟨rfl, h_g⟩;)
    | (go_at_call 39; refine (putRoot_get _ _ x0 x1).mono ?_; rintro e w' ⟨rfl, h_r⟩;))
  all_goals go_ret
  all_goals exact ⟨rfl, by (repeat' (first | (with_reducible exact Keeps.refl _) | (with_reducible assumption) | (with_reducible refine Keeps.drewN ?_ _) | (with_reducible refine Keeps.drew ?_) | (with_reducible refine Keeps.alloc ?_ _) | (with_reducible refine Keeps.setCell ?_ ?_ _) | (with_reducible refine Keeps.trans ?_ (After.keeps _)) | (with_reducible refine Keeps.trans ?_ (by with_reducible assumption)) | go_size))⟩

set_option maxHeartbeats 2000000 in
theorem back011 (hp : headB ha hb = false) (hq : rootB ra rb rc rd = true) (hr : withinB d 0 4611686018427387903 = true) (x0 : 0 ≤ x) (x1 : x < 18446744073709551616) : Calls Try.prog 12 #[.agg #[.int .i64 ha, .int .i64 hb], .agg #[.int .i64 ra, .int .i64 rb, .int .i64 rc, .int .i64 rd], .int .i64 d, .int .u64 x] w fun e w' => e = .returned (.bool true) ∧ Keeps w w' := by
  have HP := Lib.hid hp
  have HQ := Lib.hid hq
  have HR := Lib.hid hr
  have HP0 : Hid (headI ha hb = 0) := Lib.hid (by unfold headI; rw [hp]; rfl)
  have HX : Hid (okRoot x = true → (if okRoot x then x else 0) = x) := Lib.hid (fun h => if_pos h)
  clear hp hq hr
  have Z := Live.nil w.heap.size
  go_enter Try.func12, Try.ntmps12
  go_wp2_with (first
    | (go_at_call 32; refine (wfirst_c _).mono ?_; rintro e w' ⟨rfl, h_f⟩; have hc_ := fun (b o : Nat) (hb : b < _) => (h_f).cell (b := b) (o := o) hb; have hf_ := fun (b o : Nat) (hb : b < _) => (h_f).frozen (b := b) (o := o) hb; have hs_ := (h_f).size; (try simp only [World.size_alloc, World.heap_drewN, World.size_drew, World.size_setCell] at hs_); (first | (with_reducible replace Z := Live.step0 Z hs_) | (with_reducible replace Z := Live.step1 Z hs_) | (with_reducible replace Z := Live.step2 Z hs_) | (with_reducible replace Z := Live.step3 Z hs_) | (with_reducible replace Z := Live.step4 Z hs_)); have z_ := Z; simp only [Live, List.forall_mem_cons, List.not_mem_nil, false_imp_iff, implies_true, and_true] at z_)
    | (go_at_call 38; refine (putHead_c _ _ _).mono ?_; rintro e w' ⟨rfl, h_h⟩; rw [HP.out, HP0.out]; have hc_ := fun (b o : Nat) (hb : b < _) => (h_h).cell (b := b) (o := o) hb; have hf_ := fun (b o : Nat) (hb : b < _) => (h_h).frozen (b := b) (o := o) hb; have hs_ := (h_h).size; (try simp only [World.size_alloc, World.heap_drewN, World.size_drew, World.size_setCell] at hs_); (first | (with_reducible replace Z := Live.step0 Z hs_) | (with_reducible replace Z := Live.step1 Z hs_) | (with_reducible replace Z := Live.step2 Z hs_) | (with_reducible replace Z := Live.step3 Z hs_) | (with_reducible replace Z := Live.step4 Z hs_)); have z_ := Z; simp only [Live, List.forall_mem_cons, List.not_mem_nil, false_imp_iff, implies_true, and_true] at z_)
    | (go_at_call 39; refine (putRoot_c _ _ _ _ _).mono ?_; rintro e w' ⟨rfl, h_r⟩; rw [HQ.out]; have hc_ := fun (b o : Nat) (hb : b < _) => (h_r).cell (b := b) (o := o) hb; have hf_ := fun (b o : Nat) (hb : b < _) => (h_r).frozen (b := b) (o := o) hb; have hs_ := (h_r).size; (try simp only [World.size_alloc, World.heap_drewN, World.size_drew, World.size_setCell] at hs_); (first | (with_reducible replace Z := Live.step0 Z hs_) | (with_reducible replace Z := Live.step1 Z hs_) | (with_reducible replace Z := Live.step2 Z hs_) | (with_reducible replace Z := Live.step3 Z hs_) | (with_reducible replace Z := Live.step4 Z hs_)); have z_ := Z; simp only [Live, List.forall_mem_cons, List.not_mem_nil, false_imp_iff, implies_true, and_true] at z_)
    | (go_at_call 40; refine (putPin_c _ _).mono ?_; rintro e w' ⟨rfl, k1, rfl⟩; rw [HR.out])
    | (go_at_call 41; refine (getPin_at _ _ HR.out).mono ?_; rintro e w' ⟨rfl, k2, rfl⟩))
  have hX : ∀ (n : Nat) (u : After (w'.drewN n)), (u.world.cell? ⟨w.heap.size, 0, none⟩ = some (.int .i64 ha) ∧ u.world.cell? ⟨w.heap.size, 1, none⟩ = some (.int .i64 hb)) ∧ u.world.cell? ⟨w.heap.size + 1, 0, none⟩ = some (.int .i64 ra) ∧ u.world.cell? ⟨w.heap.size + 1, 1, none⟩ = some (.int .i64 rb) ∧ u.world.cell? ⟨w.heap.size + 1, 2, none⟩ = some (.int .i64 rc) ∧ u.world.cell? ⟨w.heap.size + 1, 3, none⟩ = some (.int .i64 rd) := by
    intro n u
    have K : Keeps ((w.alloc (.cells #[.int .i64 ha, .int .i64 hb] 50)).alloc (.cells #[.int .i64 ra, .int .i64 rb, .int .i64 rc, .int .i64 rd] 42)) u.world := by (repeat' (first | (with_reducible exact Keeps.refl _) | (with_reducible assumption) | (with_reducible refine Keeps.drewN ?_ _) | (with_reducible refine Keeps.drew ?_) | (with_reducible refine Keeps.alloc ?_ _) | (with_reducible refine Keeps.setCell ?_ ?_ _) | (with_reducible refine Keeps.trans ?_ (After.keeps _)) | (with_reducible refine Keeps.trans ?_ (by with_reducible assumption)) | go_size))
    have h1 := ((Has.new w #[.int .i64 ha, .int .i64 hb] 50).alloc (.cells #[.int .i64 ra, .int .i64 rb, .int .i64 rc, .int .i64 rd] 42)).keeps K
    have h2 := (Has.new1 w (.cells #[.int .i64 ha, .int .i64 hb] 50) #[.int .i64 ra, .int .i64 rb, .int .i64 rc, .int .i64 rd] 42).keeps K
    exact ⟨⟨h1.cell 0, h1.cell 1⟩, h2.cell 0, h2.cell 1, h2.cell 2, h2.cell 3⟩
  (refine wp_region_after_lit (by kernel_rfl) (by kernel_rfl) ?_; (try simp only [List.append_eq, List.cons_append, List.nil_append]); (repeat (first | go_big_quiet_step ((first | (go_at_call 43; exact calls_after (getRoot_at _ _ _ _ _ HQ.out)))) | ((with_reducible refine wpQuiet_step (fun K hK => ?_)); go_simp; first | (refine hK _ ?_; clear hK K) | (apply Exists.intro; refine ⟨fun _ => ?_, hK _ ?_⟩; (first | (go_at_call 43; exact calls_after (getRoot_at _ _ _ _ _ HQ.out))); clear hK K) | (refine ⟨.bool false, fun _ => ?_, hK _ ?_⟩; (simp; done); clear hK K) | (refine ⟨.bool true, fun _ => ?_, hK _ ?_⟩; (simp; done); clear hK K)))); refine wpQuiet_nil ?_; intro _ hw'; obtain ⟨uq, hw''⟩ := hw'; subst hw'')
  go_wp2_with (first
    | (go_at_call 42; refine (getHead_c _ _ x0 x1).mono ?_; rintro e w' ⟨rfl, h_g⟩;)
    | (go_at_call 38; refine (putHead_get _ _ x0 x1).mono ?_; rintro e w' ⟨rfl, h_h⟩;)
    | (go_at_call 43; refine (getRoot_c _ _ x0 x1).mono ?_; rintro e w' ⟨rfl, h_g⟩;)
    | (go_at_call 39; refine (putRoot_get _ _ x0 x1).mono ?_; rintro e w' ⟨rfl, h_r⟩;))
  all_goals go_ret
  all_goals exact ⟨rfl, by (repeat' (first | (with_reducible exact Keeps.refl _) | (with_reducible assumption) | (with_reducible refine Keeps.drewN ?_ _) | (with_reducible refine Keeps.drew ?_) | (with_reducible refine Keeps.alloc ?_ _) | (with_reducible refine Keeps.setCell ?_ ?_ _) | (with_reducible refine Keeps.trans ?_ (After.keeps _)) | (with_reducible refine Keeps.trans ?_ (by with_reducible assumption)) | go_size))⟩

set_option maxHeartbeats 2000000 in
theorem back100 (hp : headB ha hb = true) (hq : rootB ra rb rc rd = false) (hr : withinB d 0 4611686018427387903 = false) (x0 : 0 ≤ x) (x1 : x < 18446744073709551616) : Calls Try.prog 12 #[.agg #[.int .i64 ha, .int .i64 hb], .agg #[.int .i64 ra, .int .i64 rb, .int .i64 rc, .int .i64 rd], .int .i64 d, .int .u64 x] w fun e w' => e = .returned (.bool true) ∧ Keeps w w' := by
  have HP := Lib.hid hp
  have HQ := Lib.hid hq
  have HR := Lib.hid hr
  have HQ0 : Hid (rootI ra rb rc rd = 0) := Lib.hid (by unfold rootI; rw [hq]; rfl)
  have HR0 : Hid (pinI d = 0) := Lib.hid (by unfold pinI; rw [hr]; rfl)
  have HX : Hid (okRoot x = true → (if okRoot x then x else 0) = x) := Lib.hid (fun h => if_pos h)
  clear hp hq hr
  have Z := Live.nil w.heap.size
  go_enter Try.func12, Try.ntmps12
  go_wp2_with (first
    | (go_at_call 32; refine (wfirst_c _).mono ?_; rintro e w' ⟨rfl, h_f⟩; have hc_ := fun (b o : Nat) (hb : b < _) => (h_f).cell (b := b) (o := o) hb; have hf_ := fun (b o : Nat) (hb : b < _) => (h_f).frozen (b := b) (o := o) hb; have hs_ := (h_f).size; (try simp only [World.size_alloc, World.heap_drewN, World.size_drew, World.size_setCell] at hs_); (first | (with_reducible replace Z := Live.step0 Z hs_) | (with_reducible replace Z := Live.step1 Z hs_) | (with_reducible replace Z := Live.step2 Z hs_) | (with_reducible replace Z := Live.step3 Z hs_) | (with_reducible replace Z := Live.step4 Z hs_)); have z_ := Z; simp only [Live, List.forall_mem_cons, List.not_mem_nil, false_imp_iff, implies_true, and_true] at z_)
    | (go_at_call 38; refine (putHead_c _ _ _).mono ?_; rintro e w' ⟨rfl, h_h⟩; rw [HP.out]; have hc_ := fun (b o : Nat) (hb : b < _) => (h_h).cell (b := b) (o := o) hb; have hf_ := fun (b o : Nat) (hb : b < _) => (h_h).frozen (b := b) (o := o) hb; have hs_ := (h_h).size; (try simp only [World.size_alloc, World.heap_drewN, World.size_drew, World.size_setCell] at hs_); (first | (with_reducible replace Z := Live.step0 Z hs_) | (with_reducible replace Z := Live.step1 Z hs_) | (with_reducible replace Z := Live.step2 Z hs_) | (with_reducible replace Z := Live.step3 Z hs_) | (with_reducible replace Z := Live.step4 Z hs_)); have z_ := Z; simp only [Live, List.forall_mem_cons, List.not_mem_nil, false_imp_iff, implies_true, and_true] at z_)
    | (go_at_call 39; refine (putRoot_c _ _ _ _ _).mono ?_; rintro e w' ⟨rfl, h_r⟩; rw [HQ.out, HQ0.out]; have hc_ := fun (b o : Nat) (hb : b < _) => (h_r).cell (b := b) (o := o) hb; have hf_ := fun (b o : Nat) (hb : b < _) => (h_r).frozen (b := b) (o := o) hb; have hs_ := (h_r).size; (try simp only [World.size_alloc, World.heap_drewN, World.size_drew, World.size_setCell] at hs_); (first | (with_reducible replace Z := Live.step0 Z hs_) | (with_reducible replace Z := Live.step1 Z hs_) | (with_reducible replace Z := Live.step2 Z hs_) | (with_reducible replace Z := Live.step3 Z hs_) | (with_reducible replace Z := Live.step4 Z hs_)); have z_ := Z; simp only [Live, List.forall_mem_cons, List.not_mem_nil, false_imp_iff, implies_true, and_true] at z_)
    | (go_at_call 40; refine (putPin_c _ _).mono ?_; rintro e w' ⟨rfl, k1, rfl⟩; rw [HR.out, HR0.out])
    | (go_at_call 41; refine (getPin_zero _).mono ?_; rintro e w' ⟨rfl, k2, rfl⟩))
  have hX : ∀ (n : Nat) (u : After (w'.drewN n)), (u.world.cell? ⟨w.heap.size, 0, none⟩ = some (.int .i64 ha) ∧ u.world.cell? ⟨w.heap.size, 1, none⟩ = some (.int .i64 hb)) ∧ u.world.cell? ⟨w.heap.size + 1, 0, none⟩ = some (.int .i64 ra) ∧ u.world.cell? ⟨w.heap.size + 1, 1, none⟩ = some (.int .i64 rb) ∧ u.world.cell? ⟨w.heap.size + 1, 2, none⟩ = some (.int .i64 rc) ∧ u.world.cell? ⟨w.heap.size + 1, 3, none⟩ = some (.int .i64 rd) := by
    intro n u
    have K : Keeps ((w.alloc (.cells #[.int .i64 ha, .int .i64 hb] 50)).alloc (.cells #[.int .i64 ra, .int .i64 rb, .int .i64 rc, .int .i64 rd] 42)) u.world := by (repeat' (first | (with_reducible exact Keeps.refl _) | (with_reducible assumption) | (with_reducible refine Keeps.drewN ?_ _) | (with_reducible refine Keeps.drew ?_) | (with_reducible refine Keeps.alloc ?_ _) | (with_reducible refine Keeps.setCell ?_ ?_ _) | (with_reducible refine Keeps.trans ?_ (After.keeps _)) | (with_reducible refine Keeps.trans ?_ (by with_reducible assumption)) | go_size))
    have h1 := ((Has.new w #[.int .i64 ha, .int .i64 hb] 50).alloc (.cells #[.int .i64 ra, .int .i64 rb, .int .i64 rc, .int .i64 rd] 42)).keeps K
    have h2 := (Has.new1 w (.cells #[.int .i64 ha, .int .i64 hb] 50) #[.int .i64 ra, .int .i64 rb, .int .i64 rc, .int .i64 rd] 42).keeps K
    exact ⟨⟨h1.cell 0, h1.cell 1⟩, h2.cell 0, h2.cell 1, h2.cell 2, h2.cell 3⟩
  (refine wp_region_after_lit (by kernel_rfl) (by kernel_rfl) ?_; (try simp only [List.append_eq, List.cons_append, List.nil_append]); (repeat (first | go_big_quiet_step ((first | (go_at_call 42; exact calls_after (getHead_at _ _ _ HP.out)))) | ((with_reducible refine wpQuiet_step (fun K hK => ?_)); go_simp; first | (refine hK _ ?_; clear hK K) | (apply Exists.intro; refine ⟨fun _ => ?_, hK _ ?_⟩; (first | (go_at_call 42; exact calls_after (getHead_at _ _ _ HP.out))); clear hK K) | (refine ⟨.bool false, fun _ => ?_, hK _ ?_⟩; (simp; done); clear hK K) | (refine ⟨.bool true, fun _ => ?_, hK _ ?_⟩; (simp; done); clear hK K)))); refine wpQuiet_nil ?_; intro _ hw'; obtain ⟨uq, hw''⟩ := hw'; subst hw'')
  go_wp2_with (first
    | (go_at_call 42; refine (getHead_c _ _ x0 x1).mono ?_; rintro e w' ⟨rfl, h_g⟩;)
    | (go_at_call 38; refine (putHead_get _ _ x0 x1).mono ?_; rintro e w' ⟨rfl, h_h⟩;)
    | (go_at_call 43; refine (getRoot_c _ _ x0 x1).mono ?_; rintro e w' ⟨rfl, h_g⟩;)
    | (go_at_call 39; refine (putRoot_get _ _ x0 x1).mono ?_; rintro e w' ⟨rfl, h_r⟩;))
  all_goals go_ret
  all_goals exact ⟨rfl, by (repeat' (first | (with_reducible exact Keeps.refl _) | (with_reducible assumption) | (with_reducible refine Keeps.drewN ?_ _) | (with_reducible refine Keeps.drew ?_) | (with_reducible refine Keeps.alloc ?_ _) | (with_reducible refine Keeps.setCell ?_ ?_ _) | (with_reducible refine Keeps.trans ?_ (After.keeps _)) | (with_reducible refine Keeps.trans ?_ (by with_reducible assumption)) | go_size))⟩

set_option maxHeartbeats 2000000 in
theorem back101 (hp : headB ha hb = true) (hq : rootB ra rb rc rd = false) (hr : withinB d 0 4611686018427387903 = true) (x0 : 0 ≤ x) (x1 : x < 18446744073709551616) : Calls Try.prog 12 #[.agg #[.int .i64 ha, .int .i64 hb], .agg #[.int .i64 ra, .int .i64 rb, .int .i64 rc, .int .i64 rd], .int .i64 d, .int .u64 x] w fun e w' => e = .returned (.bool true) ∧ Keeps w w' := by
  have HP := Lib.hid hp
  have HQ := Lib.hid hq
  have HR := Lib.hid hr
  have HQ0 : Hid (rootI ra rb rc rd = 0) := Lib.hid (by unfold rootI; rw [hq]; rfl)
  have HX : Hid (okRoot x = true → (if okRoot x then x else 0) = x) := Lib.hid (fun h => if_pos h)
  clear hp hq hr
  have Z := Live.nil w.heap.size
  go_enter Try.func12, Try.ntmps12
  go_wp2_with (first
    | (go_at_call 32; refine (wfirst_c _).mono ?_; rintro e w' ⟨rfl, h_f⟩; have hc_ := fun (b o : Nat) (hb : b < _) => (h_f).cell (b := b) (o := o) hb; have hf_ := fun (b o : Nat) (hb : b < _) => (h_f).frozen (b := b) (o := o) hb; have hs_ := (h_f).size; (try simp only [World.size_alloc, World.heap_drewN, World.size_drew, World.size_setCell] at hs_); (first | (with_reducible replace Z := Live.step0 Z hs_) | (with_reducible replace Z := Live.step1 Z hs_) | (with_reducible replace Z := Live.step2 Z hs_) | (with_reducible replace Z := Live.step3 Z hs_) | (with_reducible replace Z := Live.step4 Z hs_)); have z_ := Z; simp only [Live, List.forall_mem_cons, List.not_mem_nil, false_imp_iff, implies_true, and_true] at z_)
    | (go_at_call 38; refine (putHead_c _ _ _).mono ?_; rintro e w' ⟨rfl, h_h⟩; rw [HP.out]; have hc_ := fun (b o : Nat) (hb : b < _) => (h_h).cell (b := b) (o := o) hb; have hf_ := fun (b o : Nat) (hb : b < _) => (h_h).frozen (b := b) (o := o) hb; have hs_ := (h_h).size; (try simp only [World.size_alloc, World.heap_drewN, World.size_drew, World.size_setCell] at hs_); (first | (with_reducible replace Z := Live.step0 Z hs_) | (with_reducible replace Z := Live.step1 Z hs_) | (with_reducible replace Z := Live.step2 Z hs_) | (with_reducible replace Z := Live.step3 Z hs_) | (with_reducible replace Z := Live.step4 Z hs_)); have z_ := Z; simp only [Live, List.forall_mem_cons, List.not_mem_nil, false_imp_iff, implies_true, and_true] at z_)
    | (go_at_call 39; refine (putRoot_c _ _ _ _ _).mono ?_; rintro e w' ⟨rfl, h_r⟩; rw [HQ.out, HQ0.out]; have hc_ := fun (b o : Nat) (hb : b < _) => (h_r).cell (b := b) (o := o) hb; have hf_ := fun (b o : Nat) (hb : b < _) => (h_r).frozen (b := b) (o := o) hb; have hs_ := (h_r).size; (try simp only [World.size_alloc, World.heap_drewN, World.size_drew, World.size_setCell] at hs_); (first | (with_reducible replace Z := Live.step0 Z hs_) | (with_reducible replace Z := Live.step1 Z hs_) | (with_reducible replace Z := Live.step2 Z hs_) | (with_reducible replace Z := Live.step3 Z hs_) | (with_reducible replace Z := Live.step4 Z hs_)); have z_ := Z; simp only [Live, List.forall_mem_cons, List.not_mem_nil, false_imp_iff, implies_true, and_true] at z_)
    | (go_at_call 40; refine (putPin_c _ _).mono ?_; rintro e w' ⟨rfl, k1, rfl⟩; rw [HR.out])
    | (go_at_call 41; refine (getPin_at _ _ HR.out).mono ?_; rintro e w' ⟨rfl, k2, rfl⟩))
  have hX : ∀ (n : Nat) (u : After (w'.drewN n)), (u.world.cell? ⟨w.heap.size, 0, none⟩ = some (.int .i64 ha) ∧ u.world.cell? ⟨w.heap.size, 1, none⟩ = some (.int .i64 hb)) ∧ u.world.cell? ⟨w.heap.size + 1, 0, none⟩ = some (.int .i64 ra) ∧ u.world.cell? ⟨w.heap.size + 1, 1, none⟩ = some (.int .i64 rb) ∧ u.world.cell? ⟨w.heap.size + 1, 2, none⟩ = some (.int .i64 rc) ∧ u.world.cell? ⟨w.heap.size + 1, 3, none⟩ = some (.int .i64 rd) := by
    intro n u
    have K : Keeps ((w.alloc (.cells #[.int .i64 ha, .int .i64 hb] 50)).alloc (.cells #[.int .i64 ra, .int .i64 rb, .int .i64 rc, .int .i64 rd] 42)) u.world := by (repeat' (first | (with_reducible exact Keeps.refl _) | (with_reducible assumption) | (with_reducible refine Keeps.drewN ?_ _) | (with_reducible refine Keeps.drew ?_) | (with_reducible refine Keeps.alloc ?_ _) | (with_reducible refine Keeps.setCell ?_ ?_ _) | (with_reducible refine Keeps.trans ?_ (After.keeps _)) | (with_reducible refine Keeps.trans ?_ (by with_reducible assumption)) | go_size))
    have h1 := ((Has.new w #[.int .i64 ha, .int .i64 hb] 50).alloc (.cells #[.int .i64 ra, .int .i64 rb, .int .i64 rc, .int .i64 rd] 42)).keeps K
    have h2 := (Has.new1 w (.cells #[.int .i64 ha, .int .i64 hb] 50) #[.int .i64 ra, .int .i64 rb, .int .i64 rc, .int .i64 rd] 42).keeps K
    exact ⟨⟨h1.cell 0, h1.cell 1⟩, h2.cell 0, h2.cell 1, h2.cell 2, h2.cell 3⟩
  (refine wp_region_after_lit (by kernel_rfl) (by kernel_rfl) ?_; (try simp only [List.append_eq, List.cons_append, List.nil_append]); (repeat (first | go_big_quiet_step ((first | (go_at_call 42; exact calls_after (getHead_at _ _ _ HP.out)))) | ((with_reducible refine wpQuiet_step (fun K hK => ?_)); go_simp; first | (refine hK _ ?_; clear hK K) | (apply Exists.intro; refine ⟨fun _ => ?_, hK _ ?_⟩; (first | (go_at_call 42; exact calls_after (getHead_at _ _ _ HP.out))); clear hK K) | (refine ⟨.bool false, fun _ => ?_, hK _ ?_⟩; (simp; done); clear hK K) | (refine ⟨.bool true, fun _ => ?_, hK _ ?_⟩; (simp; done); clear hK K)))); refine wpQuiet_nil ?_; intro _ hw'; obtain ⟨uq, hw''⟩ := hw'; subst hw'')
  go_wp2_with (first
    | (go_at_call 42; refine (getHead_c _ _ x0 x1).mono ?_; rintro e w' ⟨rfl, h_g⟩;)
    | (go_at_call 38; refine (putHead_get _ _ x0 x1).mono ?_; rintro e w' ⟨rfl, h_h⟩;)
    | (go_at_call 43; refine (getRoot_c _ _ x0 x1).mono ?_; rintro e w' ⟨rfl, h_g⟩;)
    | (go_at_call 39; refine (putRoot_get _ _ x0 x1).mono ?_; rintro e w' ⟨rfl, h_r⟩;))
  all_goals go_ret
  all_goals exact ⟨rfl, by (repeat' (first | (with_reducible exact Keeps.refl _) | (with_reducible assumption) | (with_reducible refine Keeps.drewN ?_ _) | (with_reducible refine Keeps.drew ?_) | (with_reducible refine Keeps.alloc ?_ _) | (with_reducible refine Keeps.setCell ?_ ?_ _) | (with_reducible refine Keeps.trans ?_ (After.keeps _)) | (with_reducible refine Keeps.trans ?_ (by with_reducible assumption)) | go_size))⟩

set_option maxHeartbeats 2000000 in
theorem back110 (hp : headB ha hb = true) (hq : rootB ra rb rc rd = true) (hr : withinB d 0 4611686018427387903 = false) (x0 : 0 ≤ x) (x1 : x < 18446744073709551616) : Calls Try.prog 12 #[.agg #[.int .i64 ha, .int .i64 hb], .agg #[.int .i64 ra, .int .i64 rb, .int .i64 rc, .int .i64 rd], .int .i64 d, .int .u64 x] w fun e w' => e = .returned (.bool true) ∧ Keeps w w' := by
  have HP := Lib.hid hp
  have HQ := Lib.hid hq
  have HR := Lib.hid hr
  have HR0 : Hid (pinI d = 0) := Lib.hid (by unfold pinI; rw [hr]; rfl)
  have HX : Hid (okRoot x = true → (if okRoot x then x else 0) = x) := Lib.hid (fun h => if_pos h)
  clear hp hq hr
  have Z := Live.nil w.heap.size
  go_enter Try.func12, Try.ntmps12
  go_wp2_with (first
    | (go_at_call 32; refine (wfirst_c _).mono ?_; rintro e w' ⟨rfl, h_f⟩; have hc_ := fun (b o : Nat) (hb : b < _) => (h_f).cell (b := b) (o := o) hb; have hf_ := fun (b o : Nat) (hb : b < _) => (h_f).frozen (b := b) (o := o) hb; have hs_ := (h_f).size; (try simp only [World.size_alloc, World.heap_drewN, World.size_drew, World.size_setCell] at hs_); (first | (with_reducible replace Z := Live.step0 Z hs_) | (with_reducible replace Z := Live.step1 Z hs_) | (with_reducible replace Z := Live.step2 Z hs_) | (with_reducible replace Z := Live.step3 Z hs_) | (with_reducible replace Z := Live.step4 Z hs_)); have z_ := Z; simp only [Live, List.forall_mem_cons, List.not_mem_nil, false_imp_iff, implies_true, and_true] at z_)
    | (go_at_call 38; refine (putHead_c _ _ _).mono ?_; rintro e w' ⟨rfl, h_h⟩; rw [HP.out]; have hc_ := fun (b o : Nat) (hb : b < _) => (h_h).cell (b := b) (o := o) hb; have hf_ := fun (b o : Nat) (hb : b < _) => (h_h).frozen (b := b) (o := o) hb; have hs_ := (h_h).size; (try simp only [World.size_alloc, World.heap_drewN, World.size_drew, World.size_setCell] at hs_); (first | (with_reducible replace Z := Live.step0 Z hs_) | (with_reducible replace Z := Live.step1 Z hs_) | (with_reducible replace Z := Live.step2 Z hs_) | (with_reducible replace Z := Live.step3 Z hs_) | (with_reducible replace Z := Live.step4 Z hs_)); have z_ := Z; simp only [Live, List.forall_mem_cons, List.not_mem_nil, false_imp_iff, implies_true, and_true] at z_)
    | (go_at_call 39; refine (putRoot_c _ _ _ _ _).mono ?_; rintro e w' ⟨rfl, h_r⟩; rw [HQ.out]; have hc_ := fun (b o : Nat) (hb : b < _) => (h_r).cell (b := b) (o := o) hb; have hf_ := fun (b o : Nat) (hb : b < _) => (h_r).frozen (b := b) (o := o) hb; have hs_ := (h_r).size; (try simp only [World.size_alloc, World.heap_drewN, World.size_drew, World.size_setCell] at hs_); (first | (with_reducible replace Z := Live.step0 Z hs_) | (with_reducible replace Z := Live.step1 Z hs_) | (with_reducible replace Z := Live.step2 Z hs_) | (with_reducible replace Z := Live.step3 Z hs_) | (with_reducible replace Z := Live.step4 Z hs_)); have z_ := Z; simp only [Live, List.forall_mem_cons, List.not_mem_nil, false_imp_iff, implies_true, and_true] at z_)
    | (go_at_call 40; refine (putPin_c _ _).mono ?_; rintro e w' ⟨rfl, k1, rfl⟩; rw [HR.out, HR0.out])
    | (go_at_call 41; refine (getPin_zero _).mono ?_; rintro e w' ⟨rfl, k2, rfl⟩))
  have hX : ∀ (n : Nat) (u : After (w'.drewN n)), (u.world.cell? ⟨w.heap.size, 0, none⟩ = some (.int .i64 ha) ∧ u.world.cell? ⟨w.heap.size, 1, none⟩ = some (.int .i64 hb)) ∧ u.world.cell? ⟨w.heap.size + 1, 0, none⟩ = some (.int .i64 ra) ∧ u.world.cell? ⟨w.heap.size + 1, 1, none⟩ = some (.int .i64 rb) ∧ u.world.cell? ⟨w.heap.size + 1, 2, none⟩ = some (.int .i64 rc) ∧ u.world.cell? ⟨w.heap.size + 1, 3, none⟩ = some (.int .i64 rd) := by
    intro n u
    have K : Keeps ((w.alloc (.cells #[.int .i64 ha, .int .i64 hb] 50)).alloc (.cells #[.int .i64 ra, .int .i64 rb, .int .i64 rc, .int .i64 rd] 42)) u.world := by (repeat' (first | (with_reducible exact Keeps.refl _) | (with_reducible assumption) | (with_reducible refine Keeps.drewN ?_ _) | (with_reducible refine Keeps.drew ?_) | (with_reducible refine Keeps.alloc ?_ _) | (with_reducible refine Keeps.setCell ?_ ?_ _) | (with_reducible refine Keeps.trans ?_ (After.keeps _)) | (with_reducible refine Keeps.trans ?_ (by with_reducible assumption)) | go_size))
    have h1 := ((Has.new w #[.int .i64 ha, .int .i64 hb] 50).alloc (.cells #[.int .i64 ra, .int .i64 rb, .int .i64 rc, .int .i64 rd] 42)).keeps K
    have h2 := (Has.new1 w (.cells #[.int .i64 ha, .int .i64 hb] 50) #[.int .i64 ra, .int .i64 rb, .int .i64 rc, .int .i64 rd] 42).keeps K
    exact ⟨⟨h1.cell 0, h1.cell 1⟩, h2.cell 0, h2.cell 1, h2.cell 2, h2.cell 3⟩
  (refine wp_region_after_lit (by kernel_rfl) (by kernel_rfl) ?_; (try simp only [List.append_eq, List.cons_append, List.nil_append]); (repeat (first | go_big_quiet_step ((first | (go_at_call 42; exact calls_after (getHead_at _ _ _ HP.out)) | (go_at_call 43; exact calls_after (getRoot_at _ _ _ _ _ HQ.out)))) | ((with_reducible refine wpQuiet_step (fun K hK => ?_)); go_simp; first | (refine hK _ ?_; clear hK K) | (apply Exists.intro; refine ⟨fun _ => ?_, hK _ ?_⟩; (first | (go_at_call 42; exact calls_after (getHead_at _ _ _ HP.out)) | (go_at_call 43; exact calls_after (getRoot_at _ _ _ _ _ HQ.out))); clear hK K) | (refine ⟨.bool false, fun _ => ?_, hK _ ?_⟩; (simp; done); clear hK K) | (refine ⟨.bool true, fun _ => ?_, hK _ ?_⟩; (simp; done); clear hK K)))); refine wpQuiet_nil ?_; intro _ hw'; obtain ⟨uq, hw''⟩ := hw'; subst hw'')
  go_wp2_with (first
    | (go_at_call 42; refine (getHead_c _ _ x0 x1).mono ?_; rintro e w' ⟨rfl, h_g⟩;)
    | (go_at_call 38; refine (putHead_get _ _ x0 x1).mono ?_; rintro e w' ⟨rfl, h_h⟩;)
    | (go_at_call 43; refine (getRoot_c _ _ x0 x1).mono ?_; rintro e w' ⟨rfl, h_g⟩;)
    | (go_at_call 39; refine (putRoot_get _ _ x0 x1).mono ?_; rintro e w' ⟨rfl, h_r⟩;))
  all_goals go_ret
  all_goals exact ⟨rfl, by (repeat' (first | (with_reducible exact Keeps.refl _) | (with_reducible assumption) | (with_reducible refine Keeps.drewN ?_ _) | (with_reducible refine Keeps.drew ?_) | (with_reducible refine Keeps.alloc ?_ _) | (with_reducible refine Keeps.setCell ?_ ?_ _) | (with_reducible refine Keeps.trans ?_ (After.keeps _)) | (with_reducible refine Keeps.trans ?_ (by with_reducible assumption)) | go_size))⟩

set_option maxHeartbeats 2000000 in
theorem back111 (hp : headB ha hb = true) (hq : rootB ra rb rc rd = true) (hr : withinB d 0 4611686018427387903 = true) (x0 : 0 ≤ x) (x1 : x < 18446744073709551616) : Calls Try.prog 12 #[.agg #[.int .i64 ha, .int .i64 hb], .agg #[.int .i64 ra, .int .i64 rb, .int .i64 rc, .int .i64 rd], .int .i64 d, .int .u64 x] w fun e w' => e = .returned (.bool true) ∧ Keeps w w' := by
  have HP := Lib.hid hp
  have HQ := Lib.hid hq
  have HR := Lib.hid hr
  have HX : Hid (okRoot x = true → (if okRoot x then x else 0) = x) := Lib.hid (fun h => if_pos h)
  clear hp hq hr
  have Z := Live.nil w.heap.size
  go_enter Try.func12, Try.ntmps12
  go_wp2_with (first
    | (go_at_call 32; refine (wfirst_c _).mono ?_; rintro e w' ⟨rfl, h_f⟩; have hc_ := fun (b o : Nat) (hb : b < _) => (h_f).cell (b := b) (o := o) hb; have hf_ := fun (b o : Nat) (hb : b < _) => (h_f).frozen (b := b) (o := o) hb; have hs_ := (h_f).size; (try simp only [World.size_alloc, World.heap_drewN, World.size_drew, World.size_setCell] at hs_); (first | (with_reducible replace Z := Live.step0 Z hs_) | (with_reducible replace Z := Live.step1 Z hs_) | (with_reducible replace Z := Live.step2 Z hs_) | (with_reducible replace Z := Live.step3 Z hs_) | (with_reducible replace Z := Live.step4 Z hs_)); have z_ := Z; simp only [Live, List.forall_mem_cons, List.not_mem_nil, false_imp_iff, implies_true, and_true] at z_)
    | (go_at_call 38; refine (putHead_c _ _ _).mono ?_; rintro e w' ⟨rfl, h_h⟩; rw [HP.out]; have hc_ := fun (b o : Nat) (hb : b < _) => (h_h).cell (b := b) (o := o) hb; have hf_ := fun (b o : Nat) (hb : b < _) => (h_h).frozen (b := b) (o := o) hb; have hs_ := (h_h).size; (try simp only [World.size_alloc, World.heap_drewN, World.size_drew, World.size_setCell] at hs_); (first | (with_reducible replace Z := Live.step0 Z hs_) | (with_reducible replace Z := Live.step1 Z hs_) | (with_reducible replace Z := Live.step2 Z hs_) | (with_reducible replace Z := Live.step3 Z hs_) | (with_reducible replace Z := Live.step4 Z hs_)); have z_ := Z; simp only [Live, List.forall_mem_cons, List.not_mem_nil, false_imp_iff, implies_true, and_true] at z_)
    | (go_at_call 39; refine (putRoot_c _ _ _ _ _).mono ?_; rintro e w' ⟨rfl, h_r⟩; rw [HQ.out]; have hc_ := fun (b o : Nat) (hb : b < _) => (h_r).cell (b := b) (o := o) hb; have hf_ := fun (b o : Nat) (hb : b < _) => (h_r).frozen (b := b) (o := o) hb; have hs_ := (h_r).size; (try simp only [World.size_alloc, World.heap_drewN, World.size_drew, World.size_setCell] at hs_); (first | (with_reducible replace Z := Live.step0 Z hs_) | (with_reducible replace Z := Live.step1 Z hs_) | (with_reducible replace Z := Live.step2 Z hs_) | (with_reducible replace Z := Live.step3 Z hs_) | (with_reducible replace Z := Live.step4 Z hs_)); have z_ := Z; simp only [Live, List.forall_mem_cons, List.not_mem_nil, false_imp_iff, implies_true, and_true] at z_)
    | (go_at_call 40; refine (putPin_c _ _).mono ?_; rintro e w' ⟨rfl, k1, rfl⟩; rw [HR.out])
    | (go_at_call 41; refine (getPin_at _ _ HR.out).mono ?_; rintro e w' ⟨rfl, k2, rfl⟩))
  have hX : ∀ (n : Nat) (u : After (w'.drewN n)), (u.world.cell? ⟨w.heap.size, 0, none⟩ = some (.int .i64 ha) ∧ u.world.cell? ⟨w.heap.size, 1, none⟩ = some (.int .i64 hb)) ∧ u.world.cell? ⟨w.heap.size + 1, 0, none⟩ = some (.int .i64 ra) ∧ u.world.cell? ⟨w.heap.size + 1, 1, none⟩ = some (.int .i64 rb) ∧ u.world.cell? ⟨w.heap.size + 1, 2, none⟩ = some (.int .i64 rc) ∧ u.world.cell? ⟨w.heap.size + 1, 3, none⟩ = some (.int .i64 rd) := by
    intro n u
    have K : Keeps ((w.alloc (.cells #[.int .i64 ha, .int .i64 hb] 50)).alloc (.cells #[.int .i64 ra, .int .i64 rb, .int .i64 rc, .int .i64 rd] 42)) u.world := by (repeat' (first | (with_reducible exact Keeps.refl _) | (with_reducible assumption) | (with_reducible refine Keeps.drewN ?_ _) | (with_reducible refine Keeps.drew ?_) | (with_reducible refine Keeps.alloc ?_ _) | (with_reducible refine Keeps.setCell ?_ ?_ _) | (with_reducible refine Keeps.trans ?_ (After.keeps _)) | (with_reducible refine Keeps.trans ?_ (by with_reducible assumption)) | go_size))
    have h1 := ((Has.new w #[.int .i64 ha, .int .i64 hb] 50).alloc (.cells #[.int .i64 ra, .int .i64 rb, .int .i64 rc, .int .i64 rd] 42)).keeps K
    have h2 := (Has.new1 w (.cells #[.int .i64 ha, .int .i64 hb] 50) #[.int .i64 ra, .int .i64 rb, .int .i64 rc, .int .i64 rd] 42).keeps K
    exact ⟨⟨h1.cell 0, h1.cell 1⟩, h2.cell 0, h2.cell 1, h2.cell 2, h2.cell 3⟩
  (refine wp_region_after_lit (by kernel_rfl) (by kernel_rfl) ?_; (try simp only [List.append_eq, List.cons_append, List.nil_append]); (repeat (first | go_big_quiet_step ((first | (go_at_call 42; exact calls_after (getHead_at _ _ _ HP.out)) | (go_at_call 43; exact calls_after (getRoot_at _ _ _ _ _ HQ.out)))) | ((with_reducible refine wpQuiet_step (fun K hK => ?_)); go_simp; first | (refine hK _ ?_; clear hK K) | (apply Exists.intro; refine ⟨fun _ => ?_, hK _ ?_⟩; (first | (go_at_call 42; exact calls_after (getHead_at _ _ _ HP.out)) | (go_at_call 43; exact calls_after (getRoot_at _ _ _ _ _ HQ.out))); clear hK K) | (refine ⟨.bool false, fun _ => ?_, hK _ ?_⟩; (simp; done); clear hK K) | (refine ⟨.bool true, fun _ => ?_, hK _ ?_⟩; (simp; done); clear hK K)))); refine wpQuiet_nil ?_; intro _ hw'; obtain ⟨uq, hw''⟩ := hw'; subst hw'')
  go_wp2_with (first
    | (go_at_call 42; refine (getHead_c _ _ x0 x1).mono ?_; rintro e w' ⟨rfl, h_g⟩;)
    | (go_at_call 38; refine (putHead_get _ _ x0 x1).mono ?_; rintro e w' ⟨rfl, h_h⟩;)
    | (go_at_call 43; refine (getRoot_c _ _ x0 x1).mono ?_; rintro e w' ⟨rfl, h_g⟩;)
    | (go_at_call 39; refine (putRoot_get _ _ x0 x1).mono ?_; rintro e w' ⟨rfl, h_r⟩;))
  all_goals go_ret
  all_goals exact ⟨rfl, by (repeat' (first | (with_reducible exact Keeps.refl _) | (with_reducible assumption) | (with_reducible refine Keeps.drewN ?_ _) | (with_reducible refine Keeps.drew ?_) | (with_reducible refine Keeps.alloc ?_ _) | (with_reducible refine Keeps.setCell ?_ ?_ _) | (with_reducible refine Keeps.trans ?_ (After.keeps _)) | (with_reducible refine Keeps.trans ?_ (by with_reducible assumption)) | go_size))⟩

end
theorem wordBack_c (ha hb ra rb rc rd d x : Int) (w : World) (x0 : 0 ≤ x) (x1 : x < 18446744073709551616) : Calls Try.prog 12 #[.agg #[.int .i64 ha, .int .i64 hb], .agg #[.int .i64 ra, .int .i64 rb, .int .i64 rc, .int .i64 rd], .int .i64 d, .int .u64 x] w fun e w' => e = .returned (.bool true) ∧ Keeps w w' := by
  cases hp : headB ha hb <;> cases hq : rootB ra rb rc rd <;> cases hr : withinB d 0 4611686018427387903
  · exact back000 ha hb ra rb rc rd d x w hp hq hr x0 x1
  · exact back001 ha hb ra rb rc rd d x w hp hq hr x0 x1
  · exact back010 ha hb ra rb rc rd d x w hp hq hr x0 x1
  · exact back011 ha hb ra rb rc rd d x w hp hq hr x0 x1
  · exact back100 ha hb ra rb rc rd d x w hp hq hr x0 x1
  · exact back101 ha hb ra rb rc rd d x w hp hq hr x0 x1
  · exact back110 ha hb ra rb rc rd d x w hp hq hr x0 x1
  · exact back111 ha hb ra rb rc rd d x w hp hq hr x0 x1
end Go.Proofs.Ytendglgcimdcpaa
