/- The Advance's look and cas, walked. -/
import Derived.Test.YtkpagkopfdblgaaEpochW
namespace Go.Proofs.Ytkpagkopfdblgaa
set_option linter.unusedVariables false
set_option linter.unusedSimpArgs false
open Go Go.RowKit
set_option maxRecDepth 100000
attribute [local go_sem ↓] Go.wp_at_zero Go.wp_at_succ
section
variable {w : World} {E m b N : Nat} {a i : Nat} {p n : Int} {l : List Int} {cc : Int} {x : Acc} {g : Nat} {c who now v was wk o : Int} {won : Bool}
theorem advLook_bar (hg : Has w g (advOf .nilFunc c E was wk won) 140)
    (hE : Has w E (epochOf m a p n) 144) (M : Mem w m b N l cc x) (hi : p + wk = i) (ho : l[i]? = some v) (v0 : 0 ≤ v) (v1 : v < 18446744073709551616) (p1 : i < 9223372036854775807) (wk0 : 0 ≤ wk) (pp0 : 0 ≤ p) (u0 : 0 ≤ was) (hcc : cc < 4611686018427387903) (h1 : v % 2 = 1) (h2 : ¬ v / 2 = cutI was) :
    Calls Try.prog 107 #[.pointer (some ⟨g, 0, none⟩)] w fun e w' => e = .returned (.tuple #[]) ∧ Upd [g, m, b] w w' ∧
      Has w' g (advOf .nilFunc c E was wk won) 140 ∧ Mem w' m b N l (cc + 1) ⟨1, i, v, v, true⟩ := by
  have ne_ := Has.ne hg hE (by decide); have ne_' := Ne.symm ne_
  have ne_ := Has.ne hg M.hg (by decide); have ne_' := Ne.symm ne_
  have ne_ := Has.ne hg M.hb (by decide); have ne_' := Ne.symm ne_
  have ne_ := Has.ne hE M.hg (by decide); have ne_' := Ne.symm ne_
  have ne_ := Has.ne hE M.hb (by decide); have ne_' := Ne.symm ne_
  have p0 : 0 ≤ p + wk := by omega
  have p2 : p + wk < 9223372036854775807 := by omega
  have p3 : wk < 9223372036854775807 := by omega
  have HO := Lib.hid ho
  have HI := Lib.hid hi
  have pw := wrap_ok (p + wk) (by omega) (by omega)
  have pw2 := wrap_ok (wk + 1) (by omega) (by omega)
  obtain ⟨K, hK⟩ : ∃ K, cutI was = K := ⟨_, rfl⟩
  have q1 : (v / 2 != K) = true := by rw [← hK]; simp [h2]
  have H1 := Lib.hid h1
  have H2 := Lib.hid hK
  have zb : 0 ≤ v / 2 ∧ v / 2 < 9223372036854775808 := by omega
  clear h1 h2 hK
  clear ho hi p1
  have FX_ := (hg).facts; simp only [blockFacts, listFacts, cellsAt, Nat.reduceAdd, and_true, true_and, and_assoc] at FX_
  have FX_ := (hE).facts; simp only [blockFacts, listFacts, cellsAt, Nat.reduceAdd, and_true, true_and, and_assoc, epochOf] at FX_
  have HG := hg
  have HE := hE
  go_enter Try.func107, Try.ntmps107
  go_wp2
  go_region_held3 (fun y => ((y.cell? ⟨g, 5, none⟩ = some (.pointer (some ⟨E, 0, none⟩)) ∧ y.cell? ⟨E, 0, none⟩ = some (.pointer (some ⟨m, 0, none⟩))) ∧ y.cell? ⟨E, 2, none⟩ = some (.int .i64 p)) ∧ y.cell? ⟨g, 7, none⟩ = some (.int .i64 wk)) (((repeat' (with_reducible apply And.intro)) <;> (apply Has.cellv; (focus ((repeat (first | (with_reducible assumption) | (with_reducible exact Has.new _ _ _) | (with_reducible exact Has.new1 _ _ _ _) | (with_reducible exact Has.new2 _ _ _ _ _) | (with_reducible refine Has.newAt ?_; (simp; done)) | (with_reducible apply Has.set) | (with_reducible apply Has.far; (case hn => first | assumption | (simp; done) | (intro e_; simp at e_; omega))) | (with_reducible apply Has.alloc) | (with_reducible apply Has.drewN) | (with_reducible apply Has.drew) | (with_reducible refine Has.keeps ?_ (by with_reducible assumption)))))); (first | (with_reducible assumption) | rfl | (simp; done) | fail))))
    ((go_at_call 35; refine (mload_at (M.keeps (by ((repeat' (first | (with_reducible exact Keeps.refl _) | (with_reducible assumption) | (with_reducible refine Keeps.drewN ?_ _) | (with_reducible refine Keeps.drew ?_) | (with_reducible refine Keeps.alloc ?_ _) | (with_reducible refine Keeps.setCell ?_ ?_ _) | (with_reducible refine Keeps.trans ?_ (After.keeps _)) | (with_reducible refine Keeps.trans ?_ (by with_reducible assumption)) | go_size)); (first | done | fail)))) i _ HI.out HO.out hcc).mono ?_; rintro e w' ⟨rfl, hu2, M2⟩; have HG := (HG.keeps (by ((repeat' (first | (with_reducible exact Keeps.refl _) | (with_reducible assumption) | (with_reducible refine Keeps.drewN ?_ _) | (with_reducible refine Keeps.drew ?_) | (with_reducible refine Keeps.alloc ?_ _) | (with_reducible refine Keeps.setCell ?_ ?_ _) | (with_reducible refine Keeps.trans ?_ (After.keeps _)) | (with_reducible refine Keeps.trans ?_ (by with_reducible assumption)) | go_size)); (first | done | fail)))).upd hu2 (by simp only [List.mem_cons, List.not_mem_nil, or_false, not_or]; (repeat' apply And.intro) <;> assumption); have HE := (HE.keeps (by ((repeat' (first | (with_reducible exact Keeps.refl _) | (with_reducible assumption) | (with_reducible refine Keeps.drewN ?_ _) | (with_reducible refine Keeps.drew ?_) | (with_reducible refine Keeps.alloc ?_ _) | (with_reducible refine Keeps.setCell ?_ ?_ _) | (with_reducible refine Keeps.trans ?_ (After.keeps _)) | (with_reducible refine Keeps.trans ?_ (by with_reducible assumption)) | go_size)); (first | done | fail)))).upd hu2 (by simp only [List.mem_cons, List.not_mem_nil, or_false, not_or]; (repeat' apply And.intro) <;> assumption); have FX_ := (HG).facts; simp only [blockFacts, listFacts, cellsAt, Nat.reduceAdd, and_true, true_and, and_assoc] at FX_; have FX_ := (HE).facts; simp only [blockFacts, listFacts, cellsAt, Nat.reduceAdd, and_true, true_and, and_assoc, epochOf] at FX_))
  go_wp2_with (first
    | (go_at_call 27; refine (getPin_odd _ _ v0 v1 H1.out).mono ?_; rintro e w' ⟨rfl, k_pin, rfl⟩)
    | (go_at_call 84; refine (cut_at _ _ _ u0 H2.out).mono ?_; rintro e w' ⟨rfl, rfl⟩))
  ((try simp only [Exit.inBlock, Exit.then]); refine bodyPost_ret (results_none rfl _ _ _) rfl ?_)
  exact ⟨rfl, (Upd.drew (Upd.refl _ _)).trans ((hu2.mono (fun x hx => by simp at hx ⊢; omega)).trans (by (repeat (first | (with_reducible exact Upd.refl _ _) | (with_reducible assumption) | (with_reducible refine Upd.setCell ?_ (by first | (left; simp; done) | (right; go_size)) _) | (with_reducible refine Upd.alloc ?_ _) | (with_reducible refine Upd.drewN ?_ _) | (with_reducible refine Upd.drew ?_))))), by (apply Has.congr; (focus ((repeat (first | (with_reducible assumption) | (with_reducible exact Has.new _ _ _) | (with_reducible exact Has.new1 _ _ _ _) | (with_reducible exact Has.new2 _ _ _ _ _) | (with_reducible refine Has.newAt ?_; (simp; done)) | (with_reducible apply Has.set) | (with_reducible apply Has.far; (case hn => first | assumption | (simp; done) | (intro e_; simp at e_; omega))) | (with_reducible apply Has.alloc) | (with_reducible apply Has.drewN) | (with_reducible apply Has.drew) | (with_reducible refine Has.keeps ?_ (by with_reducible assumption)))))); (first | rfl | (simp; done))), (by repeat' (first | (with_reducible assumption) | (with_reducible apply Mem.alloc) | (with_reducible apply Mem.drewN) | (with_reducible apply Mem.drew) | (with_reducible apply Mem.far; (case h1 => first | assumption | (simp; done) | (intro e_; simp at e_; omega)); (case h2 => first | assumption | (simp; done) | (intro e_; simp at e_; omega)))))⟩
theorem advLook_odd_on (hg : Has w g (advOf .nilFunc c E was wk won) 140)
    (hE : Has w E (epochOf m a p n) 144) (M : Mem w m b N l cc x) (hi : p + wk = i) (ho : l[i]? = some v) (v0 : 0 ≤ v) (v1 : v < 18446744073709551616) (p1 : i < 9223372036854775807) (wk0 : 0 ≤ wk) (pp0 : 0 ≤ p) (u0 : 0 ≤ was) (hcc : cc < 4611686018427387903) (h1 : v % 2 = 1) (h2 : v / 2 = cutI was) (h3 : wk + 1 < n) :
    Calls Try.prog 107 #[.pointer (some ⟨g, 0, none⟩)] w fun e w' => e = .returned (.tuple #[]) ∧ Upd [g, m, b] w w' ∧
      Has w' g (advOf (bound 107 g) c E was (wk + 1) won) 140 ∧ Mem w' m b N l (cc + 1) ⟨1, i, v, v, true⟩ := by
  have ne_ := Has.ne hg hE (by decide); have ne_' := Ne.symm ne_
  have ne_ := Has.ne hg M.hg (by decide); have ne_' := Ne.symm ne_
  have ne_ := Has.ne hg M.hb (by decide); have ne_' := Ne.symm ne_
  have ne_ := Has.ne hE M.hg (by decide); have ne_' := Ne.symm ne_
  have ne_ := Has.ne hE M.hb (by decide); have ne_' := Ne.symm ne_
  have p0 : 0 ≤ p + wk := by omega
  have p2 : p + wk < 9223372036854775807 := by omega
  have p3 : wk < 9223372036854775807 := by omega
  have HO := Lib.hid ho
  have HI := Lib.hid hi
  have pw := wrap_ok (p + wk) (by omega) (by omega)
  have pw2 := wrap_ok (wk + 1) (by omega) (by omega)
  obtain ⟨K, hK⟩ : ∃ K, cutI was = K := ⟨_, rfl⟩
  have q1 : (v / 2 != K) = false := by rw [← hK, h2]; simp
  have H1 := Lib.hid h1
  have H2 := Lib.hid hK
  have zb : 0 ≤ v / 2 ∧ v / 2 < 9223372036854775808 := by omega
  clear h1 h2 hK
  clear ho hi p1
  have FX_ := (hg).facts; simp only [blockFacts, listFacts, cellsAt, Nat.reduceAdd, and_true, true_and, and_assoc] at FX_
  have FX_ := (hE).facts; simp only [blockFacts, listFacts, cellsAt, Nat.reduceAdd, and_true, true_and, and_assoc, epochOf] at FX_
  have HG := hg
  have HE := hE
  go_enter Try.func107, Try.ntmps107
  go_wp2
  go_region_held3 (fun y => ((y.cell? ⟨g, 5, none⟩ = some (.pointer (some ⟨E, 0, none⟩)) ∧ y.cell? ⟨E, 0, none⟩ = some (.pointer (some ⟨m, 0, none⟩))) ∧ y.cell? ⟨E, 2, none⟩ = some (.int .i64 p)) ∧ y.cell? ⟨g, 7, none⟩ = some (.int .i64 wk)) (((repeat' (with_reducible apply And.intro)) <;> (apply Has.cellv; (focus ((repeat (first | (with_reducible assumption) | (with_reducible exact Has.new _ _ _) | (with_reducible exact Has.new1 _ _ _ _) | (with_reducible exact Has.new2 _ _ _ _ _) | (with_reducible refine Has.newAt ?_; (simp; done)) | (with_reducible apply Has.set) | (with_reducible apply Has.far; (case hn => first | assumption | (simp; done) | (intro e_; simp at e_; omega))) | (with_reducible apply Has.alloc) | (with_reducible apply Has.drewN) | (with_reducible apply Has.drew) | (with_reducible refine Has.keeps ?_ (by with_reducible assumption)))))); (first | (with_reducible assumption) | rfl | (simp; done) | fail))))
    ((go_at_call 35; refine (mload_at (M.keeps (by ((repeat' (first | (with_reducible exact Keeps.refl _) | (with_reducible assumption) | (with_reducible refine Keeps.drewN ?_ _) | (with_reducible refine Keeps.drew ?_) | (with_reducible refine Keeps.alloc ?_ _) | (with_reducible refine Keeps.setCell ?_ ?_ _) | (with_reducible refine Keeps.trans ?_ (After.keeps _)) | (with_reducible refine Keeps.trans ?_ (by with_reducible assumption)) | go_size)); (first | done | fail)))) i _ HI.out HO.out hcc).mono ?_; rintro e w' ⟨rfl, hu2, M2⟩; have HG := (HG.keeps (by ((repeat' (first | (with_reducible exact Keeps.refl _) | (with_reducible assumption) | (with_reducible refine Keeps.drewN ?_ _) | (with_reducible refine Keeps.drew ?_) | (with_reducible refine Keeps.alloc ?_ _) | (with_reducible refine Keeps.setCell ?_ ?_ _) | (with_reducible refine Keeps.trans ?_ (After.keeps _)) | (with_reducible refine Keeps.trans ?_ (by with_reducible assumption)) | go_size)); (first | done | fail)))).upd hu2 (by simp only [List.mem_cons, List.not_mem_nil, or_false, not_or]; (repeat' apply And.intro) <;> assumption); have HE := (HE.keeps (by ((repeat' (first | (with_reducible exact Keeps.refl _) | (with_reducible assumption) | (with_reducible refine Keeps.drewN ?_ _) | (with_reducible refine Keeps.drew ?_) | (with_reducible refine Keeps.alloc ?_ _) | (with_reducible refine Keeps.setCell ?_ ?_ _) | (with_reducible refine Keeps.trans ?_ (After.keeps _)) | (with_reducible refine Keeps.trans ?_ (by with_reducible assumption)) | go_size)); (first | done | fail)))).upd hu2 (by simp only [List.mem_cons, List.not_mem_nil, or_false, not_or]; (repeat' apply And.intro) <;> assumption); have FX_ := (HG).facts; simp only [blockFacts, listFacts, cellsAt, Nat.reduceAdd, and_true, true_and, and_assoc] at FX_; have FX_ := (HE).facts; simp only [blockFacts, listFacts, cellsAt, Nat.reduceAdd, and_true, true_and, and_assoc, epochOf] at FX_))
  go_wp2_with (first
    | (go_at_call 27; refine (getPin_odd _ _ v0 v1 H1.out).mono ?_; rintro e w' ⟨rfl, k_pin, rfl⟩)
    | (go_at_call 84; refine (cut_at _ _ _ u0 H2.out).mono ?_; rintro e w' ⟨rfl, rfl⟩))
  go_region_held3 (fun y => (y.cell? ⟨g, 5, none⟩ = some (.pointer (some ⟨E, 0, none⟩)) ∧ y.cell? ⟨E, 3, none⟩ = some (.int .i64 n)) ∧ y.cell? ⟨g, 7, none⟩ = some (.int .i64 (wk + 1))) (((repeat' (with_reducible apply And.intro)) <;> (apply Has.cellv; (focus ((repeat (first | (with_reducible assumption) | (with_reducible exact Has.new _ _ _) | (with_reducible exact Has.new1 _ _ _ _) | (with_reducible exact Has.new2 _ _ _ _ _) | (with_reducible refine Has.newAt ?_; (simp; done)) | (with_reducible apply Has.set) | (with_reducible apply Has.far; (case hn => first | assumption | (simp; done) | (intro e_; simp at e_; omega))) | (with_reducible apply Has.alloc) | (with_reducible apply Has.drewN) | (with_reducible apply Has.drew) | (with_reducible refine Has.keeps ?_ (by with_reducible assumption)))))); (first | (with_reducible assumption) | rfl | (simp; done) | fail)))) (fail)
  go_wp2_with (go_at_call 80; go_in)
  go_end0
  exact ⟨rfl, (Upd.drew (Upd.refl _ _)).trans ((hu2.mono (fun x hx => by simp at hx ⊢; omega)).trans (by (repeat (first | (with_reducible exact Upd.refl _ _) | (with_reducible assumption) | (with_reducible refine Upd.setCell ?_ (by first | (left; simp; done) | (right; go_size)) _) | (with_reducible refine Upd.alloc ?_ _) | (with_reducible refine Upd.drewN ?_ _) | (with_reducible refine Upd.drew ?_))))), by (apply Has.congr; (focus ((repeat (first | (with_reducible assumption) | (with_reducible exact Has.new _ _ _) | (with_reducible exact Has.new1 _ _ _ _) | (with_reducible exact Has.new2 _ _ _ _ _) | (with_reducible refine Has.newAt ?_; (simp; done)) | (with_reducible apply Has.set) | (with_reducible apply Has.far; (case hn => first | assumption | (simp; done) | (intro e_; simp at e_; omega))) | (with_reducible apply Has.alloc) | (with_reducible apply Has.drewN) | (with_reducible apply Has.drew) | (with_reducible refine Has.keeps ?_ (by with_reducible assumption)))))); (first | rfl | (simp; done))), (by repeat' (first | (with_reducible assumption) | (with_reducible apply Mem.alloc) | (with_reducible apply Mem.drewN) | (with_reducible apply Mem.drew) | (with_reducible apply Mem.far; (case h1 => first | assumption | (simp; done) | (intro e_; simp at e_; omega)); (case h2 => first | assumption | (simp; done) | (intro e_; simp at e_; omega)))))⟩
theorem advLook_odd_end (hg : Has w g (advOf .nilFunc c E was wk won) 140)
    (hE : Has w E (epochOf m a p n) 144) (M : Mem w m b N l cc x) (hi : p + wk = i) (ho : l[i]? = some v) (v0 : 0 ≤ v) (v1 : v < 18446744073709551616) (p1 : i < 9223372036854775807) (wk0 : 0 ≤ wk) (pp0 : 0 ≤ p) (u0 : 0 ≤ was) (hcc : cc < 4611686018427387903) (h1 : v % 2 = 1) (h2 : v / 2 = cutI was) (h3 : ¬ wk + 1 < n) :
    Calls Try.prog 107 #[.pointer (some ⟨g, 0, none⟩)] w fun e w' => e = .returned (.tuple #[]) ∧ Upd [g, m, b] w w' ∧
      Has w' g (advOf (bound 110 g) c E was (wk + 1) won) 140 ∧ Mem w' m b N l (cc + 1) ⟨1, i, v, v, true⟩ := by
  have ne_ := Has.ne hg hE (by decide); have ne_' := Ne.symm ne_
  have ne_ := Has.ne hg M.hg (by decide); have ne_' := Ne.symm ne_
  have ne_ := Has.ne hg M.hb (by decide); have ne_' := Ne.symm ne_
  have ne_ := Has.ne hE M.hg (by decide); have ne_' := Ne.symm ne_
  have ne_ := Has.ne hE M.hb (by decide); have ne_' := Ne.symm ne_
  have p0 : 0 ≤ p + wk := by omega
  have p2 : p + wk < 9223372036854775807 := by omega
  have p3 : wk < 9223372036854775807 := by omega
  have HO := Lib.hid ho
  have HI := Lib.hid hi
  have pw := wrap_ok (p + wk) (by omega) (by omega)
  have pw2 := wrap_ok (wk + 1) (by omega) (by omega)
  obtain ⟨K, hK⟩ : ∃ K, cutI was = K := ⟨_, rfl⟩
  have q1 : (v / 2 != K) = false := by rw [← hK, h2]; simp
  have H1 := Lib.hid h1
  have H2 := Lib.hid hK
  have zb : 0 ≤ v / 2 ∧ v / 2 < 9223372036854775808 := by omega
  clear h1 h2 hK
  clear ho hi p1
  have FX_ := (hg).facts; simp only [blockFacts, listFacts, cellsAt, Nat.reduceAdd, and_true, true_and, and_assoc] at FX_
  have FX_ := (hE).facts; simp only [blockFacts, listFacts, cellsAt, Nat.reduceAdd, and_true, true_and, and_assoc, epochOf] at FX_
  have HG := hg
  have HE := hE
  go_enter Try.func107, Try.ntmps107
  go_wp2
  go_region_held3 (fun y => ((y.cell? ⟨g, 5, none⟩ = some (.pointer (some ⟨E, 0, none⟩)) ∧ y.cell? ⟨E, 0, none⟩ = some (.pointer (some ⟨m, 0, none⟩))) ∧ y.cell? ⟨E, 2, none⟩ = some (.int .i64 p)) ∧ y.cell? ⟨g, 7, none⟩ = some (.int .i64 wk)) (((repeat' (with_reducible apply And.intro)) <;> (apply Has.cellv; (focus ((repeat (first | (with_reducible assumption) | (with_reducible exact Has.new _ _ _) | (with_reducible exact Has.new1 _ _ _ _) | (with_reducible exact Has.new2 _ _ _ _ _) | (with_reducible refine Has.newAt ?_; (simp; done)) | (with_reducible apply Has.set) | (with_reducible apply Has.far; (case hn => first | assumption | (simp; done) | (intro e_; simp at e_; omega))) | (with_reducible apply Has.alloc) | (with_reducible apply Has.drewN) | (with_reducible apply Has.drew) | (with_reducible refine Has.keeps ?_ (by with_reducible assumption)))))); (first | (with_reducible assumption) | rfl | (simp; done) | fail))))
    ((go_at_call 35; refine (mload_at (M.keeps (by ((repeat' (first | (with_reducible exact Keeps.refl _) | (with_reducible assumption) | (with_reducible refine Keeps.drewN ?_ _) | (with_reducible refine Keeps.drew ?_) | (with_reducible refine Keeps.alloc ?_ _) | (with_reducible refine Keeps.setCell ?_ ?_ _) | (with_reducible refine Keeps.trans ?_ (After.keeps _)) | (with_reducible refine Keeps.trans ?_ (by with_reducible assumption)) | go_size)); (first | done | fail)))) i _ HI.out HO.out hcc).mono ?_; rintro e w' ⟨rfl, hu2, M2⟩; have HG := (HG.keeps (by ((repeat' (first | (with_reducible exact Keeps.refl _) | (with_reducible assumption) | (with_reducible refine Keeps.drewN ?_ _) | (with_reducible refine Keeps.drew ?_) | (with_reducible refine Keeps.alloc ?_ _) | (with_reducible refine Keeps.setCell ?_ ?_ _) | (with_reducible refine Keeps.trans ?_ (After.keeps _)) | (with_reducible refine Keeps.trans ?_ (by with_reducible assumption)) | go_size)); (first | done | fail)))).upd hu2 (by simp only [List.mem_cons, List.not_mem_nil, or_false, not_or]; (repeat' apply And.intro) <;> assumption); have HE := (HE.keeps (by ((repeat' (first | (with_reducible exact Keeps.refl _) | (with_reducible assumption) | (with_reducible refine Keeps.drewN ?_ _) | (with_reducible refine Keeps.drew ?_) | (with_reducible refine Keeps.alloc ?_ _) | (with_reducible refine Keeps.setCell ?_ ?_ _) | (with_reducible refine Keeps.trans ?_ (After.keeps _)) | (with_reducible refine Keeps.trans ?_ (by with_reducible assumption)) | go_size)); (first | done | fail)))).upd hu2 (by simp only [List.mem_cons, List.not_mem_nil, or_false, not_or]; (repeat' apply And.intro) <;> assumption); have FX_ := (HG).facts; simp only [blockFacts, listFacts, cellsAt, Nat.reduceAdd, and_true, true_and, and_assoc] at FX_; have FX_ := (HE).facts; simp only [blockFacts, listFacts, cellsAt, Nat.reduceAdd, and_true, true_and, and_assoc, epochOf] at FX_))
  go_wp2_with (first
    | (go_at_call 27; refine (getPin_odd _ _ v0 v1 H1.out).mono ?_; rintro e w' ⟨rfl, k_pin, rfl⟩)
    | (go_at_call 84; refine (cut_at _ _ _ u0 H2.out).mono ?_; rintro e w' ⟨rfl, rfl⟩))
  go_region_held3 (fun y => (y.cell? ⟨g, 5, none⟩ = some (.pointer (some ⟨E, 0, none⟩)) ∧ y.cell? ⟨E, 3, none⟩ = some (.int .i64 n)) ∧ y.cell? ⟨g, 7, none⟩ = some (.int .i64 (wk + 1))) (((repeat' (with_reducible apply And.intro)) <;> (apply Has.cellv; (focus ((repeat (first | (with_reducible assumption) | (with_reducible exact Has.new _ _ _) | (with_reducible exact Has.new1 _ _ _ _) | (with_reducible exact Has.new2 _ _ _ _ _) | (with_reducible refine Has.newAt ?_; (simp; done)) | (with_reducible apply Has.set) | (with_reducible apply Has.far; (case hn => first | assumption | (simp; done) | (intro e_; simp at e_; omega))) | (with_reducible apply Has.alloc) | (with_reducible apply Has.drewN) | (with_reducible apply Has.drew) | (with_reducible refine Has.keeps ?_ (by with_reducible assumption)))))); (first | (with_reducible assumption) | rfl | (simp; done) | fail)))) (fail)
  go_wp2_with (go_at_call 80; go_in)
  go_end0
  exact ⟨rfl, (Upd.drew (Upd.refl _ _)).trans ((hu2.mono (fun x hx => by simp at hx ⊢; omega)).trans (by (repeat (first | (with_reducible exact Upd.refl _ _) | (with_reducible assumption) | (with_reducible refine Upd.setCell ?_ (by first | (left; simp; done) | (right; go_size)) _) | (with_reducible refine Upd.alloc ?_ _) | (with_reducible refine Upd.drewN ?_ _) | (with_reducible refine Upd.drew ?_))))), by (apply Has.congr; (focus ((repeat (first | (with_reducible assumption) | (with_reducible exact Has.new _ _ _) | (with_reducible exact Has.new1 _ _ _ _) | (with_reducible exact Has.new2 _ _ _ _ _) | (with_reducible refine Has.newAt ?_; (simp; done)) | (with_reducible apply Has.set) | (with_reducible apply Has.far; (case hn => first | assumption | (simp; done) | (intro e_; simp at e_; omega))) | (with_reducible apply Has.alloc) | (with_reducible apply Has.drewN) | (with_reducible apply Has.drew) | (with_reducible refine Has.keeps ?_ (by with_reducible assumption)))))); (first | rfl | (simp; done))), (by repeat' (first | (with_reducible assumption) | (with_reducible apply Mem.alloc) | (with_reducible apply Mem.drewN) | (with_reducible apply Mem.drew) | (with_reducible apply Mem.far; (case h1 => first | assumption | (simp; done) | (intro e_; simp at e_; omega)); (case h2 => first | assumption | (simp; done) | (intro e_; simp at e_; omega)))))⟩
theorem advLook_even_on (hg : Has w g (advOf .nilFunc c E was wk won) 140)
    (hE : Has w E (epochOf m a p n) 144) (M : Mem w m b N l cc x) (hi : p + wk = i) (ho : l[i]? = some v) (v0 : 0 ≤ v) (v1 : v < 18446744073709551616) (p1 : i < 9223372036854775807) (wk0 : 0 ≤ wk) (pp0 : 0 ≤ p) (u0 : 0 ≤ was) (hcc : cc < 4611686018427387903) (h1 : v % 2 = 0) (h3 : wk + 1 < n) :
    Calls Try.prog 107 #[.pointer (some ⟨g, 0, none⟩)] w fun e w' => e = .returned (.tuple #[]) ∧ Upd [g, m, b] w w' ∧
      Has w' g (advOf (bound 107 g) c E was (wk + 1) won) 140 ∧ Mem w' m b N l (cc + 1) ⟨1, i, v, v, true⟩ := by
  have ne_ := Has.ne hg hE (by decide); have ne_' := Ne.symm ne_
  have ne_ := Has.ne hg M.hg (by decide); have ne_' := Ne.symm ne_
  have ne_ := Has.ne hg M.hb (by decide); have ne_' := Ne.symm ne_
  have ne_ := Has.ne hE M.hg (by decide); have ne_' := Ne.symm ne_
  have ne_ := Has.ne hE M.hb (by decide); have ne_' := Ne.symm ne_
  have p0 : 0 ≤ p + wk := by omega
  have p2 : p + wk < 9223372036854775807 := by omega
  have p3 : wk < 9223372036854775807 := by omega
  have HO := Lib.hid ho
  have HI := Lib.hid hi
  have pw := wrap_ok (p + wk) (by omega) (by omega)
  have pw2 := wrap_ok (wk + 1) (by omega) (by omega)
  have H1 := Lib.hid h1
  clear h1
  clear ho hi p1
  have FX_ := (hg).facts; simp only [blockFacts, listFacts, cellsAt, Nat.reduceAdd, and_true, true_and, and_assoc] at FX_
  have FX_ := (hE).facts; simp only [blockFacts, listFacts, cellsAt, Nat.reduceAdd, and_true, true_and, and_assoc, epochOf] at FX_
  have HG := hg
  have HE := hE
  go_enter Try.func107, Try.ntmps107
  go_wp2
  go_region_held3 (fun y => ((y.cell? ⟨g, 5, none⟩ = some (.pointer (some ⟨E, 0, none⟩)) ∧ y.cell? ⟨E, 0, none⟩ = some (.pointer (some ⟨m, 0, none⟩))) ∧ y.cell? ⟨E, 2, none⟩ = some (.int .i64 p)) ∧ y.cell? ⟨g, 7, none⟩ = some (.int .i64 wk)) (((repeat' (with_reducible apply And.intro)) <;> (apply Has.cellv; (focus ((repeat (first | (with_reducible assumption) | (with_reducible exact Has.new _ _ _) | (with_reducible exact Has.new1 _ _ _ _) | (with_reducible exact Has.new2 _ _ _ _ _) | (with_reducible refine Has.newAt ?_; (simp; done)) | (with_reducible apply Has.set) | (with_reducible apply Has.far; (case hn => first | assumption | (simp; done) | (intro e_; simp at e_; omega))) | (with_reducible apply Has.alloc) | (with_reducible apply Has.drewN) | (with_reducible apply Has.drew) | (with_reducible refine Has.keeps ?_ (by with_reducible assumption)))))); (first | (with_reducible assumption) | rfl | (simp; done) | fail))))
    ((go_at_call 35; refine (mload_at (M.keeps (by ((repeat' (first | (with_reducible exact Keeps.refl _) | (with_reducible assumption) | (with_reducible refine Keeps.drewN ?_ _) | (with_reducible refine Keeps.drew ?_) | (with_reducible refine Keeps.alloc ?_ _) | (with_reducible refine Keeps.setCell ?_ ?_ _) | (with_reducible refine Keeps.trans ?_ (After.keeps _)) | (with_reducible refine Keeps.trans ?_ (by with_reducible assumption)) | go_size)); (first | done | fail)))) i _ HI.out HO.out hcc).mono ?_; rintro e w' ⟨rfl, hu2, M2⟩; have HG := (HG.keeps (by ((repeat' (first | (with_reducible exact Keeps.refl _) | (with_reducible assumption) | (with_reducible refine Keeps.drewN ?_ _) | (with_reducible refine Keeps.drew ?_) | (with_reducible refine Keeps.alloc ?_ _) | (with_reducible refine Keeps.setCell ?_ ?_ _) | (with_reducible refine Keeps.trans ?_ (After.keeps _)) | (with_reducible refine Keeps.trans ?_ (by with_reducible assumption)) | go_size)); (first | done | fail)))).upd hu2 (by simp only [List.mem_cons, List.not_mem_nil, or_false, not_or]; (repeat' apply And.intro) <;> assumption); have HE := (HE.keeps (by ((repeat' (first | (with_reducible exact Keeps.refl _) | (with_reducible assumption) | (with_reducible refine Keeps.drewN ?_ _) | (with_reducible refine Keeps.drew ?_) | (with_reducible refine Keeps.alloc ?_ _) | (with_reducible refine Keeps.setCell ?_ ?_ _) | (with_reducible refine Keeps.trans ?_ (After.keeps _)) | (with_reducible refine Keeps.trans ?_ (by with_reducible assumption)) | go_size)); (first | done | fail)))).upd hu2 (by simp only [List.mem_cons, List.not_mem_nil, or_false, not_or]; (repeat' apply And.intro) <;> assumption); have FX_ := (HG).facts; simp only [blockFacts, listFacts, cellsAt, Nat.reduceAdd, and_true, true_and, and_assoc] at FX_; have FX_ := (HE).facts; simp only [blockFacts, listFacts, cellsAt, Nat.reduceAdd, and_true, true_and, and_assoc, epochOf] at FX_))
  go_wp2_with (first
    | (go_at_call 27; refine (getPin_even _ _ v0 v1 H1.out).mono ?_; rintro e w' ⟨rfl, k_pin, rfl⟩))
  go_region_held3 (fun y => (y.cell? ⟨g, 5, none⟩ = some (.pointer (some ⟨E, 0, none⟩)) ∧ y.cell? ⟨E, 3, none⟩ = some (.int .i64 n)) ∧ y.cell? ⟨g, 7, none⟩ = some (.int .i64 (wk + 1))) (((repeat' (with_reducible apply And.intro)) <;> (apply Has.cellv; (focus ((repeat (first | (with_reducible assumption) | (with_reducible exact Has.new _ _ _) | (with_reducible exact Has.new1 _ _ _ _) | (with_reducible exact Has.new2 _ _ _ _ _) | (with_reducible refine Has.newAt ?_; (simp; done)) | (with_reducible apply Has.set) | (with_reducible apply Has.far; (case hn => first | assumption | (simp; done) | (intro e_; simp at e_; omega))) | (with_reducible apply Has.alloc) | (with_reducible apply Has.drewN) | (with_reducible apply Has.drew) | (with_reducible refine Has.keeps ?_ (by with_reducible assumption)))))); (first | (with_reducible assumption) | rfl | (simp; done) | fail)))) (fail)
  go_wp2_with (go_at_call 80; go_in)
  go_end0
  exact ⟨rfl, (Upd.drew (Upd.refl _ _)).trans ((hu2.mono (fun x hx => by simp at hx ⊢; omega)).trans (by (repeat (first | (with_reducible exact Upd.refl _ _) | (with_reducible assumption) | (with_reducible refine Upd.setCell ?_ (by first | (left; simp; done) | (right; go_size)) _) | (with_reducible refine Upd.alloc ?_ _) | (with_reducible refine Upd.drewN ?_ _) | (with_reducible refine Upd.drew ?_))))), by (apply Has.congr; (focus ((repeat (first | (with_reducible assumption) | (with_reducible exact Has.new _ _ _) | (with_reducible exact Has.new1 _ _ _ _) | (with_reducible exact Has.new2 _ _ _ _ _) | (with_reducible refine Has.newAt ?_; (simp; done)) | (with_reducible apply Has.set) | (with_reducible apply Has.far; (case hn => first | assumption | (simp; done) | (intro e_; simp at e_; omega))) | (with_reducible apply Has.alloc) | (with_reducible apply Has.drewN) | (with_reducible apply Has.drew) | (with_reducible refine Has.keeps ?_ (by with_reducible assumption)))))); (first | rfl | (simp; done))), (by repeat' (first | (with_reducible assumption) | (with_reducible apply Mem.alloc) | (with_reducible apply Mem.drewN) | (with_reducible apply Mem.drew) | (with_reducible apply Mem.far; (case h1 => first | assumption | (simp; done) | (intro e_; simp at e_; omega)); (case h2 => first | assumption | (simp; done) | (intro e_; simp at e_; omega)))))⟩
theorem advLook_even_end (hg : Has w g (advOf .nilFunc c E was wk won) 140)
    (hE : Has w E (epochOf m a p n) 144) (M : Mem w m b N l cc x) (hi : p + wk = i) (ho : l[i]? = some v) (v0 : 0 ≤ v) (v1 : v < 18446744073709551616) (p1 : i < 9223372036854775807) (wk0 : 0 ≤ wk) (pp0 : 0 ≤ p) (u0 : 0 ≤ was) (hcc : cc < 4611686018427387903) (h1 : v % 2 = 0) (h3 : ¬ wk + 1 < n) :
    Calls Try.prog 107 #[.pointer (some ⟨g, 0, none⟩)] w fun e w' => e = .returned (.tuple #[]) ∧ Upd [g, m, b] w w' ∧
      Has w' g (advOf (bound 110 g) c E was (wk + 1) won) 140 ∧ Mem w' m b N l (cc + 1) ⟨1, i, v, v, true⟩ := by
  have ne_ := Has.ne hg hE (by decide); have ne_' := Ne.symm ne_
  have ne_ := Has.ne hg M.hg (by decide); have ne_' := Ne.symm ne_
  have ne_ := Has.ne hg M.hb (by decide); have ne_' := Ne.symm ne_
  have ne_ := Has.ne hE M.hg (by decide); have ne_' := Ne.symm ne_
  have ne_ := Has.ne hE M.hb (by decide); have ne_' := Ne.symm ne_
  have p0 : 0 ≤ p + wk := by omega
  have p2 : p + wk < 9223372036854775807 := by omega
  have p3 : wk < 9223372036854775807 := by omega
  have HO := Lib.hid ho
  have HI := Lib.hid hi
  have pw := wrap_ok (p + wk) (by omega) (by omega)
  have pw2 := wrap_ok (wk + 1) (by omega) (by omega)
  have H1 := Lib.hid h1
  clear h1
  clear ho hi p1
  have FX_ := (hg).facts; simp only [blockFacts, listFacts, cellsAt, Nat.reduceAdd, and_true, true_and, and_assoc] at FX_
  have FX_ := (hE).facts; simp only [blockFacts, listFacts, cellsAt, Nat.reduceAdd, and_true, true_and, and_assoc, epochOf] at FX_
  have HG := hg
  have HE := hE
  go_enter Try.func107, Try.ntmps107
  go_wp2
  go_region_held3 (fun y => ((y.cell? ⟨g, 5, none⟩ = some (.pointer (some ⟨E, 0, none⟩)) ∧ y.cell? ⟨E, 0, none⟩ = some (.pointer (some ⟨m, 0, none⟩))) ∧ y.cell? ⟨E, 2, none⟩ = some (.int .i64 p)) ∧ y.cell? ⟨g, 7, none⟩ = some (.int .i64 wk)) (((repeat' (with_reducible apply And.intro)) <;> (apply Has.cellv; (focus ((repeat (first | (with_reducible assumption) | (with_reducible exact Has.new _ _ _) | (with_reducible exact Has.new1 _ _ _ _) | (with_reducible exact Has.new2 _ _ _ _ _) | (with_reducible refine Has.newAt ?_; (simp; done)) | (with_reducible apply Has.set) | (with_reducible apply Has.far; (case hn => first | assumption | (simp; done) | (intro e_; simp at e_; omega))) | (with_reducible apply Has.alloc) | (with_reducible apply Has.drewN) | (with_reducible apply Has.drew) | (with_reducible refine Has.keeps ?_ (by with_reducible assumption)))))); (first | (with_reducible assumption) | rfl | (simp; done) | fail))))
    ((go_at_call 35; refine (mload_at (M.keeps (by ((repeat' (first | (with_reducible exact Keeps.refl _) | (with_reducible assumption) | (with_reducible refine Keeps.drewN ?_ _) | (with_reducible refine Keeps.drew ?_) | (with_reducible refine Keeps.alloc ?_ _) | (with_reducible refine Keeps.setCell ?_ ?_ _) | (with_reducible refine Keeps.trans ?_ (After.keeps _)) | (with_reducible refine Keeps.trans ?_ (by with_reducible assumption)) | go_size)); (first | done | fail)))) i _ HI.out HO.out hcc).mono ?_; rintro e w' ⟨rfl, hu2, M2⟩; have HG := (HG.keeps (by ((repeat' (first | (with_reducible exact Keeps.refl _) | (with_reducible assumption) | (with_reducible refine Keeps.drewN ?_ _) | (with_reducible refine Keeps.drew ?_) | (with_reducible refine Keeps.alloc ?_ _) | (with_reducible refine Keeps.setCell ?_ ?_ _) | (with_reducible refine Keeps.trans ?_ (After.keeps _)) | (with_reducible refine Keeps.trans ?_ (by with_reducible assumption)) | go_size)); (first | done | fail)))).upd hu2 (by simp only [List.mem_cons, List.not_mem_nil, or_false, not_or]; (repeat' apply And.intro) <;> assumption); have HE := (HE.keeps (by ((repeat' (first | (with_reducible exact Keeps.refl _) | (with_reducible assumption) | (with_reducible refine Keeps.drewN ?_ _) | (with_reducible refine Keeps.drew ?_) | (with_reducible refine Keeps.alloc ?_ _) | (with_reducible refine Keeps.setCell ?_ ?_ _) | (with_reducible refine Keeps.trans ?_ (After.keeps _)) | (with_reducible refine Keeps.trans ?_ (by with_reducible assumption)) | go_size)); (first | done | fail)))).upd hu2 (by simp only [List.mem_cons, List.not_mem_nil, or_false, not_or]; (repeat' apply And.intro) <;> assumption); have FX_ := (HG).facts; simp only [blockFacts, listFacts, cellsAt, Nat.reduceAdd, and_true, true_and, and_assoc] at FX_; have FX_ := (HE).facts; simp only [blockFacts, listFacts, cellsAt, Nat.reduceAdd, and_true, true_and, and_assoc, epochOf] at FX_))
  go_wp2_with (first
    | (go_at_call 27; refine (getPin_even _ _ v0 v1 H1.out).mono ?_; rintro e w' ⟨rfl, k_pin, rfl⟩))
  go_region_held3 (fun y => (y.cell? ⟨g, 5, none⟩ = some (.pointer (some ⟨E, 0, none⟩)) ∧ y.cell? ⟨E, 3, none⟩ = some (.int .i64 n)) ∧ y.cell? ⟨g, 7, none⟩ = some (.int .i64 (wk + 1))) (((repeat' (with_reducible apply And.intro)) <;> (apply Has.cellv; (focus ((repeat (first | (with_reducible assumption) | (with_reducible exact Has.new _ _ _) | (with_reducible exact Has.new1 _ _ _ _) | (with_reducible exact Has.new2 _ _ _ _ _) | (with_reducible refine Has.newAt ?_; (simp; done)) | (with_reducible apply Has.set) | (with_reducible apply Has.far; (case hn => first | assumption | (simp; done) | (intro e_; simp at e_; omega))) | (with_reducible apply Has.alloc) | (with_reducible apply Has.drewN) | (with_reducible apply Has.drew) | (with_reducible refine Has.keeps ?_ (by with_reducible assumption)))))); (first | (with_reducible assumption) | rfl | (simp; done) | fail)))) (fail)
  go_wp2_with (go_at_call 80; go_in)
  go_end0
  exact ⟨rfl, (Upd.drew (Upd.refl _ _)).trans ((hu2.mono (fun x hx => by simp at hx ⊢; omega)).trans (by (repeat (first | (with_reducible exact Upd.refl _ _) | (with_reducible assumption) | (with_reducible refine Upd.setCell ?_ (by first | (left; simp; done) | (right; go_size)) _) | (with_reducible refine Upd.alloc ?_ _) | (with_reducible refine Upd.drewN ?_ _) | (with_reducible refine Upd.drew ?_))))), by (apply Has.congr; (focus ((repeat (first | (with_reducible assumption) | (with_reducible exact Has.new _ _ _) | (with_reducible exact Has.new1 _ _ _ _) | (with_reducible exact Has.new2 _ _ _ _ _) | (with_reducible refine Has.newAt ?_; (simp; done)) | (with_reducible apply Has.set) | (with_reducible apply Has.far; (case hn => first | assumption | (simp; done) | (intro e_; simp at e_; omega))) | (with_reducible apply Has.alloc) | (with_reducible apply Has.drewN) | (with_reducible apply Has.drew) | (with_reducible refine Has.keeps ?_ (by with_reducible assumption)))))); (first | rfl | (simp; done))), (by repeat' (first | (with_reducible assumption) | (with_reducible apply Mem.alloc) | (with_reducible apply Mem.drewN) | (with_reducible apply Mem.drew) | (with_reducible apply Mem.far; (case h1 => first | assumption | (simp; done) | (intro e_; simp at e_; omega)); (case h2 => first | assumption | (simp; done) | (intro e_; simp at e_; omega)))))⟩
theorem advCas_eq (hg : Has w g (advOf .nilFunc c E was wk won) 140)
    (hE : Has w E (epochOf m a p n) 144) (M : Mem w m b N l cc x) (ho : l[a]? = some was) (u0 : 0 ≤ was) (u1 : was < 9223372036854775807) (hcc : cc < 4611686018427387903) :
    Calls Try.prog 110 #[.pointer (some ⟨g, 0, none⟩)] w fun e w' => e = .returned (.tuple #[]) ∧ Upd [g, m, b] w w' ∧
      Has w' g (advOf .nilFunc c E was wk true) 140 ∧ Mem w' m b N (l.set a (was + 1)) (cc + 1) ⟨3, a, was, was + 1, true⟩ := by
  have ne_ := Has.ne hg hE (by decide); have ne_' := Ne.symm ne_
  have ne_ := Has.ne hg M.hg (by decide); have ne_' := Ne.symm ne_
  have ne_ := Has.ne hg M.hb (by decide); have ne_' := Ne.symm ne_
  have ne_ := Has.ne hE M.hg (by decide); have ne_' := Ne.symm ne_
  have ne_ := Has.ne hE M.hb (by decide); have ne_' := Ne.symm ne_
  have HO := Lib.hid ho
  have pw := wrapU_ok (was + 1) (by omega) (by omega)
  have tok : True := trivial
  clear ho
  have FX_ := (hg).facts; simp only [blockFacts, listFacts, cellsAt, Nat.reduceAdd, and_true, true_and, and_assoc] at FX_
  have FX_ := (hE).facts; simp only [blockFacts, listFacts, cellsAt, Nat.reduceAdd, and_true, true_and, and_assoc, epochOf] at FX_
  have HG := hg
  have HE := hE
  go_enter Try.func110, Try.ntmps110
  go_wp2
  go_region_held3 (fun y => ((y.cell? ⟨g, 5, none⟩ = some (.pointer (some ⟨E, 0, none⟩)) ∧ y.cell? ⟨E, 0, none⟩ = some (.pointer (some ⟨m, 0, none⟩))) ∧ y.cell? ⟨E, 1, none⟩ = some (.int .i64 a)) ∧ y.cell? ⟨g, 6, none⟩ = some (.int .u64 was)) (((repeat' (with_reducible apply And.intro)) <;> (apply Has.cellv; (focus ((repeat (first | (with_reducible assumption) | (with_reducible exact Has.new _ _ _) | (with_reducible exact Has.new1 _ _ _ _) | (with_reducible exact Has.new2 _ _ _ _ _) | (with_reducible refine Has.newAt ?_; (simp; done)) | (with_reducible apply Has.set) | (with_reducible apply Has.far; (case hn => first | assumption | (simp; done) | (intro e_; simp at e_; omega))) | (with_reducible apply Has.alloc) | (with_reducible apply Has.drewN) | (with_reducible apply Has.drew) | (with_reducible refine Has.keeps ?_ (by with_reducible assumption)))))); (first | (with_reducible assumption) | rfl | (simp; done) | fail))))
    ((go_at_call 39; refine (mcas_eq (M.keeps (by ((repeat' (first | (with_reducible exact Keeps.refl _) | (with_reducible assumption) | (with_reducible refine Keeps.drewN ?_ _) | (with_reducible refine Keeps.drew ?_) | (with_reducible refine Keeps.alloc ?_ _) | (with_reducible refine Keeps.setCell ?_ ?_ _) | (with_reducible refine Keeps.trans ?_ (After.keeps _)) | (with_reducible refine Keeps.trans ?_ (by with_reducible assumption)) | go_size)); (first | done | fail)))) a _ HO.out hcc).mono ?_; rintro e w' ⟨rfl, hu2, M2⟩; have HG := (HG.keeps (by ((repeat' (first | (with_reducible exact Keeps.refl _) | (with_reducible assumption) | (with_reducible refine Keeps.drewN ?_ _) | (with_reducible refine Keeps.drew ?_) | (with_reducible refine Keeps.alloc ?_ _) | (with_reducible refine Keeps.setCell ?_ ?_ _) | (with_reducible refine Keeps.trans ?_ (After.keeps _)) | (with_reducible refine Keeps.trans ?_ (by with_reducible assumption)) | go_size)); (first | done | fail)))).upd hu2 (by simp only [List.mem_cons, List.not_mem_nil, or_false, not_or]; (repeat' apply And.intro) <;> assumption); have HE := (HE.keeps (by ((repeat' (first | (with_reducible exact Keeps.refl _) | (with_reducible assumption) | (with_reducible refine Keeps.drewN ?_ _) | (with_reducible refine Keeps.drew ?_) | (with_reducible refine Keeps.alloc ?_ _) | (with_reducible refine Keeps.setCell ?_ ?_ _) | (with_reducible refine Keeps.trans ?_ (After.keeps _)) | (with_reducible refine Keeps.trans ?_ (by with_reducible assumption)) | go_size)); (first | done | fail)))).upd hu2 (by simp only [List.mem_cons, List.not_mem_nil, or_false, not_or]; (repeat' apply And.intro) <;> assumption); have FX_ := (HG).facts; simp only [blockFacts, listFacts, cellsAt, Nat.reduceAdd, and_true, true_and, and_assoc] at FX_; have FX_ := (HE).facts; simp only [blockFacts, listFacts, cellsAt, Nat.reduceAdd, and_true, true_and, and_assoc, epochOf] at FX_))
  go_end0
  exact ⟨rfl, (Upd.drew (Upd.refl _ _)).trans ((hu2.mono (fun x hx => by simp at hx ⊢; omega)).trans (by (repeat (first | (with_reducible exact Upd.refl _ _) | (with_reducible assumption) | (with_reducible refine Upd.setCell ?_ (by first | (left; simp; done) | (right; go_size)) _) | (with_reducible refine Upd.alloc ?_ _) | (with_reducible refine Upd.drewN ?_ _) | (with_reducible refine Upd.drew ?_))))), by (apply Has.congr; (focus ((repeat (first | (with_reducible assumption) | (with_reducible exact Has.new _ _ _) | (with_reducible exact Has.new1 _ _ _ _) | (with_reducible exact Has.new2 _ _ _ _ _) | (with_reducible refine Has.newAt ?_; (simp; done)) | (with_reducible apply Has.set) | (with_reducible apply Has.far; (case hn => first | assumption | (simp; done) | (intro e_; simp at e_; omega))) | (with_reducible apply Has.alloc) | (with_reducible apply Has.drewN) | (with_reducible apply Has.drew) | (with_reducible refine Has.keeps ?_ (by with_reducible assumption)))))); (first | rfl | (simp; done))), (by repeat' (first | (with_reducible assumption) | (with_reducible apply Mem.alloc) | (with_reducible apply Mem.drewN) | (with_reducible apply Mem.drew) | (with_reducible apply Mem.far; (case h1 => first | assumption | (simp; done) | (intro e_; simp at e_; omega)); (case h2 => first | assumption | (simp; done) | (intro e_; simp at e_; omega)))))⟩
theorem advCas_ne (hg : Has w g (advOf .nilFunc c E was wk won) 140)
    (hE : Has w E (epochOf m a p n) 144) (M : Mem w m b N l cc x) (ho : l[a]? = some o) (u0 : 0 ≤ was) (u1 : was < 9223372036854775807) (hcc : cc < 4611686018427387903) (hq : ¬ o = was) :
    Calls Try.prog 110 #[.pointer (some ⟨g, 0, none⟩)] w fun e w' => e = .returned (.tuple #[]) ∧ Upd [g, m, b] w w' ∧
      Has w' g (advOf .nilFunc c E was wk false) 140 ∧ Mem w' m b N l (cc + 1) ⟨3, a, o, o, false⟩ := by
  have ne_ := Has.ne hg hE (by decide); have ne_' := Ne.symm ne_
  have ne_ := Has.ne hg M.hg (by decide); have ne_' := Ne.symm ne_
  have ne_ := Has.ne hg M.hb (by decide); have ne_' := Ne.symm ne_
  have ne_ := Has.ne hE M.hg (by decide); have ne_' := Ne.symm ne_
  have ne_ := Has.ne hE M.hb (by decide); have ne_' := Ne.symm ne_
  have HO := Lib.hid ho
  have pw := wrapU_ok (was + 1) (by omega) (by omega)
  have HQ : Hid ((o != was) = true) := Lib.hid (by simp [hq])
  clear hq
  clear ho
  have FX_ := (hg).facts; simp only [blockFacts, listFacts, cellsAt, Nat.reduceAdd, and_true, true_and, and_assoc] at FX_
  have FX_ := (hE).facts; simp only [blockFacts, listFacts, cellsAt, Nat.reduceAdd, and_true, true_and, and_assoc, epochOf] at FX_
  have HG := hg
  have HE := hE
  go_enter Try.func110, Try.ntmps110
  go_wp2
  go_region_held3 (fun y => ((y.cell? ⟨g, 5, none⟩ = some (.pointer (some ⟨E, 0, none⟩)) ∧ y.cell? ⟨E, 0, none⟩ = some (.pointer (some ⟨m, 0, none⟩))) ∧ y.cell? ⟨E, 1, none⟩ = some (.int .i64 a)) ∧ y.cell? ⟨g, 6, none⟩ = some (.int .u64 was)) (((repeat' (with_reducible apply And.intro)) <;> (apply Has.cellv; (focus ((repeat (first | (with_reducible assumption) | (with_reducible exact Has.new _ _ _) | (with_reducible exact Has.new1 _ _ _ _) | (with_reducible exact Has.new2 _ _ _ _ _) | (with_reducible refine Has.newAt ?_; (simp; done)) | (with_reducible apply Has.set) | (with_reducible apply Has.far; (case hn => first | assumption | (simp; done) | (intro e_; simp at e_; omega))) | (with_reducible apply Has.alloc) | (with_reducible apply Has.drewN) | (with_reducible apply Has.drew) | (with_reducible refine Has.keeps ?_ (by with_reducible assumption)))))); (first | (with_reducible assumption) | rfl | (simp; done) | fail))))
    ((go_at_call 39; refine (mcas_ne (M.keeps (by ((repeat' (first | (with_reducible exact Keeps.refl _) | (with_reducible assumption) | (with_reducible refine Keeps.drewN ?_ _) | (with_reducible refine Keeps.drew ?_) | (with_reducible refine Keeps.alloc ?_ _) | (with_reducible refine Keeps.setCell ?_ ?_ _) | (with_reducible refine Keeps.trans ?_ (After.keeps _)) | (with_reducible refine Keeps.trans ?_ (by with_reducible assumption)) | go_size)); (first | done | fail)))) a _ _ HO.out hcc HQ.out).mono ?_; rintro e w' ⟨rfl, hu2, M2⟩; have HG := (HG.keeps (by ((repeat' (first | (with_reducible exact Keeps.refl _) | (with_reducible assumption) | (with_reducible refine Keeps.drewN ?_ _) | (with_reducible refine Keeps.drew ?_) | (with_reducible refine Keeps.alloc ?_ _) | (with_reducible refine Keeps.setCell ?_ ?_ _) | (with_reducible refine Keeps.trans ?_ (After.keeps _)) | (with_reducible refine Keeps.trans ?_ (by with_reducible assumption)) | go_size)); (first | done | fail)))).upd hu2 (by simp only [List.mem_cons, List.not_mem_nil, or_false, not_or]; (repeat' apply And.intro) <;> assumption); have HE := (HE.keeps (by ((repeat' (first | (with_reducible exact Keeps.refl _) | (with_reducible assumption) | (with_reducible refine Keeps.drewN ?_ _) | (with_reducible refine Keeps.drew ?_) | (with_reducible refine Keeps.alloc ?_ _) | (with_reducible refine Keeps.setCell ?_ ?_ _) | (with_reducible refine Keeps.trans ?_ (After.keeps _)) | (with_reducible refine Keeps.trans ?_ (by with_reducible assumption)) | go_size)); (first | done | fail)))).upd hu2 (by simp only [List.mem_cons, List.not_mem_nil, or_false, not_or]; (repeat' apply And.intro) <;> assumption); have FX_ := (HG).facts; simp only [blockFacts, listFacts, cellsAt, Nat.reduceAdd, and_true, true_and, and_assoc] at FX_; have FX_ := (HE).facts; simp only [blockFacts, listFacts, cellsAt, Nat.reduceAdd, and_true, true_and, and_assoc, epochOf] at FX_))
  go_end0
  exact ⟨rfl, (Upd.drew (Upd.refl _ _)).trans ((hu2.mono (fun x hx => by simp at hx ⊢; omega)).trans (by (repeat (first | (with_reducible exact Upd.refl _ _) | (with_reducible assumption) | (with_reducible refine Upd.setCell ?_ (by first | (left; simp; done) | (right; go_size)) _) | (with_reducible refine Upd.alloc ?_ _) | (with_reducible refine Upd.drewN ?_ _) | (with_reducible refine Upd.drew ?_))))), by (apply Has.congr; (focus ((repeat (first | (with_reducible assumption) | (with_reducible exact Has.new _ _ _) | (with_reducible exact Has.new1 _ _ _ _) | (with_reducible exact Has.new2 _ _ _ _ _) | (with_reducible refine Has.newAt ?_; (simp; done)) | (with_reducible apply Has.set) | (with_reducible apply Has.far; (case hn => first | assumption | (simp; done) | (intro e_; simp at e_; omega))) | (with_reducible apply Has.alloc) | (with_reducible apply Has.drewN) | (with_reducible apply Has.drew) | (with_reducible refine Has.keeps ?_ (by with_reducible assumption)))))); (first | rfl | (simp; done))), (by repeat' (first | (with_reducible assumption) | (with_reducible apply Mem.alloc) | (with_reducible apply Mem.drewN) | (with_reducible apply Mem.drew) | (with_reducible apply Mem.far; (case h1 => first | assumption | (simp; done) | (intro e_; simp at e_; omega)); (case h2 => first | assumption | (simp; done) | (intro e_; simp at e_; omega)))))⟩
end
end Go.Proofs.Ytkpagkopfdblgaa
