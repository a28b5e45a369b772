/- The law ChainNone, walked. -/
import Derived.Test.YtcohhfndaogikaaChainG
import Derived.Deep.RegionHeld3
import Derived.Deep.DrawnRows
namespace Go.Proofs.Ytcohhfndaogikaa
set_option linter.unusedVariables false
set_option linter.unusedSimpArgs false
open Go Go.RowKit
set_option maxRecDepth 100000
attribute [local go_sem ↓] Go.wp_at_zero Go.wp_at_succ
set_option maxHeartbeats 2000000

section
variable {w : World} {m bb N K : Nat} {l : List Int} {cc : Int} {x : Acc} {p d s c b : Int}
theorem chainNew_no (M : Mem w m bb N l cc x) (hm : mayB p K d s c b = true) (hN : (N : Int) < lenI p K d s c b) :
    Calls Try.prog 26 #[.pointer (some ⟨m, 0, none⟩), cfgV p K d s c b] w fun e w' => e = .returned (.tuple #[.pointer none, .int .i64 1]) ∧ Keeps w w' := by
  have HM := Lib.hid hm
  obtain ⟨q, hq⟩ : ∃ q, lenI p K d s c b = q := ⟨_, rfl⟩
  have HQ := Lib.hid hq
  rw [hq] at hN
  clear hm hq
  go_enter Try.func26, Try.ntmps26
  go_wp2
  refine wp_named' (fun W1 hW => ?_)
  have HK : Keeps w W1 := by rw [hW]; ((repeat' (first | (with_reducible exact Keeps.refl _) | (with_reducible assumption) | (with_reducible refine Keeps.drewN ?_ _) | (with_reducible refine Keeps.drew ?_) | (with_reducible refine Keeps.alloc ?_ _) | (with_reducible refine Keeps.setCell ?_ ?_ _) | (with_reducible refine Keeps.trans ?_ (After.keeps _)) | (with_reducible refine Keeps.trans ?_ (by with_reducible assumption)) | go_size)); (first | done | fail))
  have HC : Has W1 w.heap.size (cfgA p K d s c b) 25 := by rw [hW]; (apply Has.congr; (focus ((repeat (first | (with_reducible assumption) | (with_reducible exact Has.new _ _ _) | (with_reducible exact Has.new1 _ _ _ _) | (with_reducible exact Has.new2 _ _ _ _ _) | (with_reducible refine Has.newAt ?_; (simp; done)) | (with_reducible apply Has.set) | (with_reducible apply Has.far; (case hn => first | assumption | (simp; done) | (intro e_; simp at e_; omega))) | (with_reducible apply Has.alloc) | (with_reducible apply Has.drewN) | (with_reducible apply Has.drew) | (with_reducible refine Has.keeps ?_ (by with_reducible assumption)))))); (first | rfl | (simp; done)))
  clear hW
  go_region_held3 (fun y => (((y.cell? ⟨w.heap.size, 0, none⟩ = some (.int .i64 p) ∧ y.cell? ⟨w.heap.size, 1, none⟩ = some (.int .i64 K)) ∧ y.cell? ⟨w.heap.size, 2, none⟩ = some (.int .i64 d)) ∧ y.cell? ⟨w.heap.size, 3, none⟩ = some (.int .i64 s)) ∧ y.cell? ⟨w.heap.size, 4, none⟩ = some (.int .i64 c) ∧ y.cell? ⟨w.heap.size, 5, none⟩ = some (.int .i64 b)) (((repeat' (with_reducible apply And.intro)) <;> (apply Has.cellv; (focus ((repeat (first | (with_reducible assumption) | (with_reducible exact Has.new _ _ _) | (with_reducible exact Has.new1 _ _ _ _) | (with_reducible exact Has.new2 _ _ _ _ _) | (with_reducible refine Has.newAt ?_; (simp; done)) | (with_reducible apply Has.set) | (with_reducible apply Has.far; (case hn => first | assumption | (simp; done) | (intro e_; simp at e_; omega))) | (with_reducible apply Has.alloc) | (with_reducible apply Has.drewN) | (with_reducible apply Has.drew) | (with_reducible refine Has.keeps ?_ (by with_reducible assumption)))))); (first | (with_reducible assumption) | rfl | (simp; done) | fail))))
    (first
      | (go_at_call 69; refine (may_c _ _ _ _ _ _ _).mono ?_; rintro e w' ⟨rfl, hk5⟩; rw [HM.out]; have HC := (HC.keeps (by ((repeat' (first | (with_reducible exact Keeps.refl _) | (with_reducible assumption) | (with_reducible refine Keeps.drewN ?_ _) | (with_reducible refine Keeps.drew ?_) | (with_reducible refine Keeps.alloc ?_ _) | (with_reducible refine Keeps.setCell ?_ ?_ _) | (with_reducible refine Keeps.trans ?_ (After.keeps _)) | (with_reducible refine Keeps.trans ?_ (by with_reducible assumption)) | go_size)); (first | done | fail)))).keeps hk5; have HK := (HK.drew).trans hk5)
      | (go_at_call 71; refine (mlen (M.keeps (by ((repeat' (first | (with_reducible exact Keeps.refl _) | (with_reducible assumption) | (with_reducible refine Keeps.drewN ?_ _) | (with_reducible refine Keeps.drew ?_) | (with_reducible refine Keeps.alloc ?_ _) | (with_reducible refine Keeps.setCell ?_ ?_ _) | (with_reducible refine Keeps.trans ?_ (After.keeps _)) | (with_reducible refine Keeps.trans ?_ (by with_reducible assumption)) | go_size)); (first | done | fail))))).mono ?_; rintro e w' ⟨rfl, rfl⟩)
      | (go_at_call 25; refine (len_c _ _ _ _ _ _ _).mono ?_; rintro e w' ⟨rfl, hk6⟩; rw [HQ.out]; have HC := HC.keeps hk6; have HK := HK.trans hk6))
  go_wp2
  go_ret2
  exact ⟨rfl, by ((repeat' (first | (with_reducible exact Keeps.refl _) | (with_reducible assumption) | (with_reducible refine Keeps.drewN ?_ _) | (with_reducible refine Keeps.drew ?_) | (with_reducible refine Keeps.alloc ?_ _) | (with_reducible refine Keeps.setCell ?_ ?_ _) | (with_reducible refine Keeps.trans ?_ (After.keeps _)) | (with_reducible refine Keeps.trans ?_ (by with_reducible assumption)) | go_size)); (first | done | fail))⟩
theorem chainNew_bad (hm : mayB p K d s c b = false) :
    Calls Try.prog 26 #[.pointer (some ⟨m, 0, none⟩), cfgV p K d s c b] w fun e w' => e = .returned (.tuple #[.pointer none, .int .i64 1]) ∧ Keeps w w' := by
  have HM := Lib.hid hm
  have hmay : ∀ (W : World), Calls Try.prog 69 #[cfgV p K d s c b] W fun e w' => e = .returned (.bool false) ∧ Keeps W w' := fun W => (may_c p K d s c b W).mono fun e w' ⟨h, k⟩ => ⟨by rw [h, HM.out], k⟩
  have HMay := Lib.hid hmay
  clear hm hmay
  go_enter Try.func26, Try.ntmps26
  go_wp2
  refine wp_named' (fun W1 hW => ?_)
  have HK : Keeps w W1 := by rw [hW]; ((repeat' (first | (with_reducible exact Keeps.refl _) | (with_reducible assumption) | (with_reducible refine Keeps.drewN ?_ _) | (with_reducible refine Keeps.drew ?_) | (with_reducible refine Keeps.alloc ?_ _) | (with_reducible refine Keeps.setCell ?_ ?_ _) | (with_reducible refine Keeps.trans ?_ (After.keeps _)) | (with_reducible refine Keeps.trans ?_ (by with_reducible assumption)) | go_size)); (first | done | fail))
  have HC : Has W1 w.heap.size (cfgA p K d s c b) 25 := by rw [hW]; (apply Has.congr; (focus ((repeat (first | (with_reducible assumption) | (with_reducible exact Has.new _ _ _) | (with_reducible exact Has.new1 _ _ _ _) | (with_reducible exact Has.new2 _ _ _ _ _) | (with_reducible refine Has.newAt ?_; (simp; done)) | (with_reducible apply Has.set) | (with_reducible apply Has.far; (case hn => first | assumption | (simp; done) | (intro e_; simp at e_; omega))) | (with_reducible apply Has.alloc) | (with_reducible apply Has.drewN) | (with_reducible apply Has.drew) | (with_reducible refine Has.keeps ?_ (by with_reducible assumption)))))); (first | rfl | (simp; done)))
  clear hW
  have hX : ∀ u : After W1, ((((u.world.cell? ⟨w.heap.size, 0, none⟩ = some (.int .i64 p) ∧ u.world.cell? ⟨w.heap.size, 1, none⟩ = some (.int .i64 K)) ∧ u.world.cell? ⟨w.heap.size, 2, none⟩ = some (.int .i64 d)) ∧ u.world.cell? ⟨w.heap.size, 3, none⟩ = some (.int .i64 s)) ∧ u.world.cell? ⟨w.heap.size, 4, none⟩ = some (.int .i64 c)) ∧ u.world.cell? ⟨w.heap.size, 5, none⟩ = some (.int .i64 b) := fun u => by
    have h := HC.keeps u.keeps
    exact ⟨⟨⟨⟨⟨h.cell 0, h.cell 1⟩, h.cell 2⟩, h.cell 3⟩, h.cell 4⟩, h.cell 5⟩
  (refine wp_region_after_lit (by kernel_rfl) (by kernel_rfl) ?_; (try simp only [List.append_eq, List.cons_append, List.nil_append]); (repeat (first | go_big_quiet_step (((go_at_call 69; exact calls_after (HMay.out _)))) | ((with_reducible refine wpQuiet_step (fun K hK => ?_)); go_simp; first | (refine hK _ ?_; clear hK K) | (apply Exists.intro; refine ⟨fun _ => ?_, hK _ ?_⟩; ((go_at_call 69; exact calls_after (HMay.out _))); clear hK K) | (refine ⟨.bool false, fun _ => ?_, hK _ ?_⟩; (simp; done); clear hK K) | (refine ⟨.bool true, fun _ => ?_, hK _ ?_⟩; (simp; done); clear hK K)))); refine wpQuiet_nil ?_; intro _ hw'; obtain ⟨uq, hw''⟩ := hw'; subst hw'')
  go_wp2
  go_ret2
  exact ⟨rfl, HK.trans uq.keeps⟩
end
theorem number_ex3 (v n : Int) (w : World) (h : 1 ≤ n) (h2 : n ≤ 4611686018427387904) : Calls Try.prog 16 #[.int .i64 v, .int .i64 n] w fun e w' => ∃ q : Int, e = .returned (.int .i64 q) ∧ (0 ≤ q ∧ q < n) ∧ w = w' := by
  have hb := mod_bd v n h
  refine (number_c v n w h h2).mono ?_
  rintro e w' ⟨rfl, rfl⟩
  exact ⟨_, rfl, hb, rfl⟩
theorem chainNone_c (n less chunk : Int) (w : World) :
    Calls Try.prog 5 #[.int .i64 n, .int .i64 less, .int .i64 chunk] w fun e w' => e = .returned (.bool true) ∧ Keeps w w' := by
  have hc1 := mod_bd chunk 1000 (by omega)
  have hc2 := mod_bd chunk 2 (by omega)
  obtain ⟨q1, hq1⟩ : ∃ q, chunk % 1000 = q := ⟨_, rfl⟩
  obtain ⟨q2, hq2⟩ : ∃ q, chunk % 2 = q := ⟨_, rfl⟩
  rw [hq1] at hc1
  rw [hq2] at hc2
  have HQ1 := Lib.hid hq1
  have HQ2 := Lib.hid hq2
  clear hq1 hq2
  have tk : True := trivial
  go_enter Try.func5, Try.ntmps5
  go_wp2_with (first
    | (go_at_call 13; refine (chainFirst_c _).mono ?_; rintro e w' ⟨rfl, K0⟩)
    | (go_at_call 14; refine (csize_c _ _).mono ?_; rintro e w' ⟨K, rfl, ⟨k3, k10, -⟩, hks⟩; have K0 := K0.trans hks; have HC := Has.new w' (cfgA 1 K 8 1 0 1) 25; have K0 := K0.alloc (.cells (cfgA 1 K 8 1 0 1) 25); generalize hcb : w'.heap.size = cb at *)
    | (go_at_call 15; refine (cmade_c K _ k3 k10).mono ?_; rintro e w' ⟨m, bb, X, P, rfl, hk, hm, hb, hX, hP, H⟩; have K0 := K0.trans hk; have HC := HC.keeps hk; have FX_ := (HC).facts; simp only [blockFacts, listFacts, cellsAt, Nat.reduceAdd, and_true, true_and, and_assoc] at FX_; have HL : Hid (lenI 1 K 8 1 0 1 = ((9 * K + 6 : Nat) : Int)) := Lib.hid (by rw [(lenI_eq (cmay (by omega) (by omega))).1]; omega))
    | (go_at_call 25; refine (len_c _ _ _ _ _ _ _).mono ?_; rintro e w' ⟨rfl, hk1⟩; rw [HL.out]; have H := H.keeps hk1; have K0 := K0.trans hk1; have HC := HC.keeps hk1; have FX_ := (HC).facts; simp only [blockFacts, listFacts, cellsAt, Nat.reduceAdd, and_true, true_and, and_assoc] at FX_)
    | (go_at_call 16; refine (number_ex3 _ _ _ (by omega) (by omega)).mono ?_; rintro e w' ⟨qn, rfl, ⟨hqn0, hqn1⟩, rfl⟩)
    | (go_at_call 24; refine (mnew_int _ _ (by omega) (by omega)).mono ?_; rintro e w' ⟨m2, b2, rfl, hk2, -, -, M2⟩; have H := H.keeps hk2; have K0 := K0.trans hk2; have HC := HC.keeps hk2; have FX_ := (HC).facts; simp only [blockFacts, listFacts, cellsAt, Nat.reduceAdd, and_true, true_and, and_assoc] at FX_)
    | (go_at_call 26; have t_ := tk; clear t_ tk; refine (chainNew_no M2 (cmay (by omega) (by omega)) (by rw [HL.out]; omega)).mono ?_; rintro e w' ⟨rfl, hk3⟩; have H := H.keeps hk3; have K0 := K0.trans hk3; have HC := HC.keeps hk3; have FX_ := (HC).facts; simp only [blockFacts, listFacts, cellsAt, Nat.reduceAdd, and_true, true_and, and_assoc] at FX_)
    | (go_at_call 26; refine (chainNew_bad (by rw [← Bool.not_eq_true, mayB_true]; omega)).mono ?_; rintro e w' ⟨rfl, hk4⟩; have KA := ((Keeps.refl _).alloc _).trans hk4; have H := H.keeps KA; have K0 := K0.trans KA; have HC := HC.keeps KA))
  have KQ := Keeps.refl w'
  have HC0 := HC
  go_region_held3 (fun y => y.cell? ⟨cb, 1, none⟩ = some (.int .i64 K)) (((repeat' (with_reducible apply And.intro)) <;> (apply Has.cellv; (focus ((repeat (first | (with_reducible assumption) | (with_reducible exact Has.new _ _ _) | (with_reducible exact Has.new1 _ _ _ _) | (with_reducible exact Has.new2 _ _ _ _ _) | (with_reducible refine Has.newAt ?_; (simp; done)) | (with_reducible apply Has.set) | (with_reducible apply Has.far; (case hn => first | assumption | (simp; done) | (intro e_; simp at e_; omega))) | (with_reducible apply Has.alloc) | (with_reducible apply Has.drewN) | (with_reducible apply Has.drew) | (with_reducible refine Has.keeps ?_ (by with_reducible assumption)))))); (first | (with_reducible assumption) | rfl | (simp; done) | fail))))
    ((go_at_call 16; refine (number_c _ _ _ (by omega) (by omega)).mono ?_; rintro e w' ⟨rfl, rfl⟩; rw [HQ1.out]))
  have H := H.keeps (Keeps.drew (Keeps.refl _))
  have K0 := K0.drew
  obtain ⟨x0, M0⟩ := H.mem
  have HB : Hid (inB (-1) K = false) := Lib.hid (inB_no (.inl (by decide)))
  by_cases h2 : q2 = 1
  · subst h2
    have HA : Hid (inB (-2 - q1) K = false) := Lib.hid (inB_no (.inl (by omega)))
    have HN1 : Hid (-2 - q1 ≠ -1) := Lib.hid (by omega)
    go_wp2_with (first
      | (go_at_call 16; refine (number_c _ _ _ (by omega) (by omega)).mono ?_; rintro e w' ⟨rfl, rfl⟩; (first | rw [HQ1.out] | rw [HQ2.out]))
      | (go_at_call 27; refine (mkSet_no _ _ H.hX (by first | exact .inl HA.out | exact .inr ⟨inB_yes (by omega) (by omega), HN1.out, HA.out⟩)).mono ?_; rintro e w' ⟨rfl, rfl⟩)
      | (go_at_call 28; refine (mkWalk_no _ H.hX (by first | exact HA.out | exact HB.out)).mono ?_; rintro e w' ⟨rfl, rfl⟩)
      | (go_at_call 19; refine (xlist_no _ H.hX (by first | exact HA.out | exact HB.out)).mono ?_; rintro e w' ⟨rfl, rfl⟩)
      | (go_at_call 23; refine (mcount M0).mono ?_; rintro e w' ⟨rfl, rfl⟩))
    go_ret
    exact ⟨rfl, K0⟩
  · have h2e : (q2 == 1) = false := by rw [beq_eq_false_iff_ne]; exact h2
    have HA : Hid (inB (K + q1) K = false) := Lib.hid (inB_no (.inr (by omega)))
    have HN1 : Hid ((K : Int) + q1 ≠ -1) := Lib.hid (by omega)
    clear h2
    go_wp2_with (first
      | (go_at_call 16; refine (number_c _ _ _ (by omega) (by omega)).mono ?_; rintro e w' ⟨rfl, rfl⟩; (first | rw [HQ1.out] | rw [HQ2.out]))
      | (go_at_call 27; refine (mkSet_no _ _ H.hX (by first | exact .inl HA.out | exact .inr ⟨inB_yes (by omega) (by omega), HN1.out, HA.out⟩)).mono ?_; rintro e w' ⟨rfl, rfl⟩)
      | (go_at_call 28; refine (mkWalk_no _ H.hX (by first | exact HA.out | exact HB.out)).mono ?_; rintro e w' ⟨rfl, rfl⟩)
      | (go_at_call 19; refine (xlist_no _ H.hX (by first | exact HA.out | exact HB.out)).mono ?_; rintro e w' ⟨rfl, rfl⟩)
      | (go_at_call 23; refine (mcount M0).mono ?_; rintro e w' ⟨rfl, rfl⟩))
    go_ret
    exact ⟨rfl, K0⟩
end Go.Proofs.Ytcohhfndaogikaa
