/- The law LayApart, walked. -/
import Derived.Test.YtendglgcimdcpaaLayP
namespace Go.Proofs.Ytendglgcimdcpaa
set_option linter.unusedVariables false
set_option linter.unusedSimpArgs false
open Go Go.RowKit
set_option maxRecDepth 100000

/-- A thing's cell, by three numbers. -/
def cellF (p k d s c b v0 v1 v2 : Int) : Int :=
  if v0 % 6 = 0 then cpinI p k d s c b (v1 % p) else if v0 % 6 = 1 then crootI p k d s c b (v1 % s) else if v0 % 6 = 2 then cslotI p k d s c b (v1 % s) else
  if v0 % 6 = 3 then clinkI p k d s c b (v1 % k) else if v0 % 6 = 4 then wordI p k d s c b (v1 % k) (v2 % d) else v1 % 3
theorem cellF_bd {p k d s c b : Int} (v0 v1 v2 : Int) (hm : mayB p k d s c b = true) : 0 ≤ cellF p k d s c b v0 v1 v2 ∧ cellF p k d s c b v0 v1 v2 < lenI p k d s c b := by
  obtain ⟨⟨p0, p1⟩, ⟨k0, k1⟩, ⟨d0, d1⟩, -, ⟨s0, s1⟩, ⟨c0, c1⟩, b0, b1⟩ := mayB_true.1 hm
  obtain ⟨q0, q1⟩ := prod_bd k0 k1 d0 d1
  rw [len_of hm]
  have a1 := mod_bd v1 p (by omega)
  have a2 := mod_bd v1 s (by omega)
  have a3 := mod_bd v1 k (by omega)
  have a4 := mod_bd v2 d (by omega)
  have a5 := mod_bd v1 3 (by omega)
  obtain ⟨x0, x1⟩ := word_bd a3.1 a3.2 (show 0 ≤ d by omega) a4.1 a4.2
  unfold cellF
  split
  · unfold cpinI; rw [atI_t hm (by omega) (by omega)]; omega
  split
  · unfold crootI; rw [atI_t hm (by omega) (by omega)]; omega
  split
  · unfold cslotI; rw [atI_t hm (by omega) (by omega)]; omega
  split
  · unfold clinkI; rw [atI_t hm (by omega) (by omega)]; omega
  split
  · unfold wordI; rw [if_pos ⟨hm, a3.1, a3.2, a4.1, a4.2⟩]; omega
  · omega

set_option maxHeartbeats 2000000 in
theorem lcell_c (p k d s c b v0 v1 v2 : Int) (w : World) (hm : mayB p k d s c b = true) : Calls Try.prog 64 #[.agg #[.int .i64 p, .int .i64 k, .int .i64 d, .int .i64 s, .int .i64 c, .int .i64 b], .agg #[.int .i64 v0, .int .i64 v1, .int .i64 v2]] w fun e w' => e = .returned (.int .i64 (cellF p k d s c b v0 v1 v2)) ∧ Keeps w w' := by
  obtain ⟨⟨p0, p1⟩, ⟨k0, k1⟩, ⟨d0, d1⟩, -, ⟨s0, s1⟩, ⟨c0, c1⟩, b0, b1⟩ := mayB_true.1 hm
  have hz : v0 % 6 = 0 ∨ v0 % 6 = 1 ∨ v0 % 6 = 2 ∨ v0 % 6 = 3 ∨ v0 % 6 = 4 ∨ v0 % 6 = 5 := by omega
  clear hm
  rcases hz with h | h | h | h | h | h
  · have e : cellF p k d s c b v0 v1 v2 = cpinI p k d s c b (v1 % p) := by unfold cellF; rw [if_pos h]
    rw [e]
    have HZ := Lib.hid h
    clear e h
    go_enter Try.func64, Try.ntmps64
    go_wp2_with (go_at_call 26; refine (number_c _ _ _ (by omega) (by omega)).mono ?_; rintro e w' ⟨rfl, rfl⟩; rw [HZ.out])
    (refine wp_region_after_lit (by kernel_rfl) (by kernel_rfl) ?_; (try simp only [List.append_eq, List.cons_append, List.nil_append]); (repeat (first | go_big_quiet_step ((first | (go_at_call 26; exact calls_after_same (number_c _ _ _ (by omega) (by omega))) | (go_at_call 30; exact calls_after (lcpin_c _ _ _ _ _ _ _ _)))) | ((with_reducible refine wpQuiet_step (fun K hK => ?_)); go_simp; first | (refine hK _ ?_; clear hK K) | (apply Exists.intro; refine ⟨fun _ => ?_, hK _ ?_⟩; (first | (go_at_call 26; exact calls_after_same (number_c _ _ _ (by omega) (by omega))) | (go_at_call 30; exact calls_after (lcpin_c _ _ _ _ _ _ _ _))); clear hK K) | (refine ⟨.bool false, fun _ => ?_, hK _ ?_⟩; (simp; done); clear hK K) | (refine ⟨.bool true, fun _ => ?_, hK _ ?_⟩; (simp; done); clear hK K)))); refine wpQuiet_nil ?_; intro _ hw'; obtain ⟨uq, hw''⟩ := hw'; subst hw'')
    go_wp2
    go_ret
    exact ⟨rfl, by (repeat' (first | (with_reducible exact Keeps.refl _) | (with_reducible assumption) | (with_reducible refine Keeps.drewN ?_ _) | (with_reducible refine Keeps.drew ?_) | (with_reducible refine Keeps.alloc ?_ _) | (with_reducible refine Keeps.setCell ?_ ?_ _) | (with_reducible refine Keeps.trans ?_ (After.keeps _)) | (with_reducible refine Keeps.trans ?_ (by with_reducible assumption)) | go_size))⟩
  · have e : cellF p k d s c b v0 v1 v2 = crootI p k d s c b (v1 % s) := by unfold cellF; rw [if_neg (by omega), if_pos h]
    rw [e]
    have HZ := Lib.hid h
    clear e h
    go_enter Try.func64, Try.ntmps64
    go_wp2_with (go_at_call 26; refine (number_c _ _ _ (by omega) (by omega)).mono ?_; rintro e w' ⟨rfl, rfl⟩; rw [HZ.out])
    (refine wp_region_after_lit (by kernel_rfl) (by kernel_rfl) ?_; (try simp only [List.append_eq, List.cons_append, List.nil_append]); (repeat (first | go_big_quiet_step ((first | (go_at_call 26; exact calls_after_same (number_c _ _ _ (by omega) (by omega))) | (go_at_call 56; exact calls_after (lcroot_c _ _ _ _ _ _ _ _)))) | ((with_reducible refine wpQuiet_step (fun K hK => ?_)); go_simp; first | (refine hK _ ?_; clear hK K) | (apply Exists.intro; refine ⟨fun _ => ?_, hK _ ?_⟩; (first | (go_at_call 26; exact calls_after_same (number_c _ _ _ (by omega) (by omega))) | (go_at_call 56; exact calls_after (lcroot_c _ _ _ _ _ _ _ _))); clear hK K) | (refine ⟨.bool false, fun _ => ?_, hK _ ?_⟩; (simp; done); clear hK K) | (refine ⟨.bool true, fun _ => ?_, hK _ ?_⟩; (simp; done); clear hK K)))); refine wpQuiet_nil ?_; intro _ hw'; obtain ⟨uq, hw''⟩ := hw'; subst hw'')
    go_wp2
    go_ret
    exact ⟨rfl, by (repeat' (first | (with_reducible exact Keeps.refl _) | (with_reducible assumption) | (with_reducible refine Keeps.drewN ?_ _) | (with_reducible refine Keeps.drew ?_) | (with_reducible refine Keeps.alloc ?_ _) | (with_reducible refine Keeps.setCell ?_ ?_ _) | (with_reducible refine Keeps.trans ?_ (After.keeps _)) | (with_reducible refine Keeps.trans ?_ (by with_reducible assumption)) | go_size))⟩
  · have e : cellF p k d s c b v0 v1 v2 = cslotI p k d s c b (v1 % s) := by unfold cellF; rw [if_neg (by omega), if_neg (by omega), if_pos h]
    rw [e]
    have HZ := Lib.hid h
    clear e h
    go_enter Try.func64, Try.ntmps64
    go_wp2_with (go_at_call 26; refine (number_c _ _ _ (by omega) (by omega)).mono ?_; rintro e w' ⟨rfl, rfl⟩; rw [HZ.out])
    (refine wp_region_after_lit (by kernel_rfl) (by kernel_rfl) ?_; (try simp only [List.append_eq, List.cons_append, List.nil_append]); (repeat (first | go_big_quiet_step ((first | (go_at_call 26; exact calls_after_same (number_c _ _ _ (by omega) (by omega))) | (go_at_call 58; exact calls_after (lcslot_c _ _ _ _ _ _ _ _)))) | ((with_reducible refine wpQuiet_step (fun K hK => ?_)); go_simp; first | (refine hK _ ?_; clear hK K) | (apply Exists.intro; refine ⟨fun _ => ?_, hK _ ?_⟩; (first | (go_at_call 26; exact calls_after_same (number_c _ _ _ (by omega) (by omega))) | (go_at_call 58; exact calls_after (lcslot_c _ _ _ _ _ _ _ _))); clear hK K) | (refine ⟨.bool false, fun _ => ?_, hK _ ?_⟩; (simp; done); clear hK K) | (refine ⟨.bool true, fun _ => ?_, hK _ ?_⟩; (simp; done); clear hK K)))); refine wpQuiet_nil ?_; intro _ hw'; obtain ⟨uq, hw''⟩ := hw'; subst hw'')
    go_wp2
    go_ret
    exact ⟨rfl, by (repeat' (first | (with_reducible exact Keeps.refl _) | (with_reducible assumption) | (with_reducible refine Keeps.drewN ?_ _) | (with_reducible refine Keeps.drew ?_) | (with_reducible refine Keeps.alloc ?_ _) | (with_reducible refine Keeps.setCell ?_ ?_ _) | (with_reducible refine Keeps.trans ?_ (After.keeps _)) | (with_reducible refine Keeps.trans ?_ (by with_reducible assumption)) | go_size))⟩
  · have e : cellF p k d s c b v0 v1 v2 = clinkI p k d s c b (v1 % k) := by unfold cellF; rw [if_neg (by omega), if_neg (by omega), if_neg (by omega), if_pos h]
    rw [e]
    have HZ := Lib.hid h
    clear e h
    go_enter Try.func64, Try.ntmps64
    go_wp2_with (go_at_call 26; refine (number_c _ _ _ (by omega) (by omega)).mono ?_; rintro e w' ⟨rfl, rfl⟩; rw [HZ.out])
    (refine wp_region_after_lit (by kernel_rfl) (by kernel_rfl) ?_; (try simp only [List.append_eq, List.cons_append, List.nil_append]); (repeat (first | go_big_quiet_step ((first | (go_at_call 26; exact calls_after_same (number_c _ _ _ (by omega) (by omega))) | (go_at_call 60; exact calls_after (lclink_c _ _ _ _ _ _ _ _)))) | ((with_reducible refine wpQuiet_step (fun K hK => ?_)); go_simp; first | (refine hK _ ?_; clear hK K) | (apply Exists.intro; refine ⟨fun _ => ?_, hK _ ?_⟩; (first | (go_at_call 26; exact calls_after_same (number_c _ _ _ (by omega) (by omega))) | (go_at_call 60; exact calls_after (lclink_c _ _ _ _ _ _ _ _))); clear hK K) | (refine ⟨.bool false, fun _ => ?_, hK _ ?_⟩; (simp; done); clear hK K) | (refine ⟨.bool true, fun _ => ?_, hK _ ?_⟩; (simp; done); clear hK K)))); refine wpQuiet_nil ?_; intro _ hw'; obtain ⟨uq, hw''⟩ := hw'; subst hw'')
    go_wp2
    go_ret
    exact ⟨rfl, by (repeat' (first | (with_reducible exact Keeps.refl _) | (with_reducible assumption) | (with_reducible refine Keeps.drewN ?_ _) | (with_reducible refine Keeps.drew ?_) | (with_reducible refine Keeps.alloc ?_ _) | (with_reducible refine Keeps.setCell ?_ ?_ _) | (with_reducible refine Keeps.trans ?_ (After.keeps _)) | (with_reducible refine Keeps.trans ?_ (by with_reducible assumption)) | go_size))⟩
  · have e : cellF p k d s c b v0 v1 v2 = wordI p k d s c b (v1 % k) (v2 % d) := by unfold cellF; rw [if_neg (by omega), if_neg (by omega), if_neg (by omega), if_neg (by omega), if_pos h]
    rw [e]
    have HZ := Lib.hid h
    clear e h
    go_enter Try.func64, Try.ntmps64
    go_wp2_with (go_at_call 26; refine (number_c _ _ _ (by omega) (by omega)).mono ?_; rintro e w' ⟨rfl, rfl⟩; rw [HZ.out])
    (refine wp_region_after_lit (by kernel_rfl) (by kernel_rfl) ?_; (try simp only [List.append_eq, List.cons_append, List.nil_append]); (repeat (first | go_big_quiet_step ((first | (go_at_call 26; exact calls_after_same (number_c _ _ _ (by omega) (by omega))) | (go_at_call 31; exact calls_after (lword_c _ _ _ _ _ _ _ _ _)))) | ((with_reducible refine wpQuiet_step (fun K hK => ?_)); go_simp; first | (refine hK _ ?_; clear hK K) | (apply Exists.intro; refine ⟨fun _ => ?_, hK _ ?_⟩; (first | (go_at_call 26; exact calls_after_same (number_c _ _ _ (by omega) (by omega))) | (go_at_call 31; exact calls_after (lword_c _ _ _ _ _ _ _ _ _))); clear hK K) | (refine ⟨.bool false, fun _ => ?_, hK _ ?_⟩; (simp; done); clear hK K) | (refine ⟨.bool true, fun _ => ?_, hK _ ?_⟩; (simp; done); clear hK K)))); refine wpQuiet_nil ?_; intro _ hw'; obtain ⟨uq, hw''⟩ := hw'; subst hw'')
    go_wp2
    go_ret
    exact ⟨rfl, by (repeat' (first | (with_reducible exact Keeps.refl _) | (with_reducible assumption) | (with_reducible refine Keeps.drewN ?_ _) | (with_reducible refine Keeps.drew ?_) | (with_reducible refine Keeps.alloc ?_ _) | (with_reducible refine Keeps.setCell ?_ ?_ _) | (with_reducible refine Keeps.trans ?_ (After.keeps _)) | (with_reducible refine Keeps.trans ?_ (by with_reducible assumption)) | go_size))⟩
  · have e : cellF p k d s c b v0 v1 v2 = v1 % 3 := by unfold cellF; rw [if_neg (by omega), if_neg (by omega), if_neg (by omega), if_neg (by omega), if_neg (by omega)]
    rw [e]
    have HZ := Lib.hid h
    clear e h
    go_enter Try.func64, Try.ntmps64
    go_wp2_with (go_at_call 26; refine (number_c _ _ _ (by omega) (by omega)).mono ?_; rintro e w' ⟨rfl, rfl⟩; (try rw [HZ.out]))
    go_ret
    exact ⟨rfl, by (repeat' (first | (with_reducible exact Keeps.refl _) | (with_reducible assumption) | (with_reducible refine Keeps.drewN ?_ _) | (with_reducible refine Keeps.drew ?_) | (with_reducible refine Keeps.alloc ?_ _) | (with_reducible refine Keeps.setCell ?_ ?_ _) | (with_reducible refine Keeps.trans ?_ (After.keeps _)) | (with_reducible refine Keeps.trans ?_ (by with_reducible assumption)) | go_size))⟩
end Go.Proofs.Ytendglgcimdcpaa
