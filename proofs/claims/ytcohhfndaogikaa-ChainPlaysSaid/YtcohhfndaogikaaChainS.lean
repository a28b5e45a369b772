/- chain: Walk's access, walked; Set and Walk as plain machines. -/
import Derived.Test.YtcohhfndaogikaaChainK
namespace Go.Proofs.Ytcohhfndaogikaa
set_option linter.unusedVariables false
set_option linter.unusedSimpArgs false
open Go Go.RowKit
set_option maxRecDepth 100000
attribute [local go_sem ↓] Go.wp_at_zero Go.wp_at_succ
set_option maxHeartbeats 600000

section
variable {w : World} {m bb N X P lk K g B lb cap k : Nat} {l zs : List Int} {cc c0 : Int} {x : Acc} {p d s c b a1 o t : Int} {q : Nat}
theorem walkLoad_on (hG : Has w g (walkOf .nilFunc c0 X (.slice (some ⟨lb, 0, none⟩) (k + 1) cap)) 132) (hX : Has w X (chainOf m p K d s c b P) 114) (M : Mem w m bb N l cc x) (R : Row B 3 w (.slice (some ⟨lb, 0, none⟩) (k + 1) cap) (ivals zs)) (hz : zs.length = k + 1)
    (hc1 : w.cell? ⟨lb, k, none⟩ = some (.int .i64 a1)) (hm : mayB p K d s c b = true) (u0 : 0 ≤ a1) (u1 : a1 < K) (hq : 3 + p + s + s + a1 = q) (ho : l[q]? = some o) (o0 : 0 ≤ o) (o1 : o < 18446744073709551616) (ht : belowI K o = t) (t0 : 0 ≤ t) (t1 : t ≤ 9000000) (hkK : k + 1 < K) (hB : B ≤ w.heap.size) (hcc : cc < 4611686018427387903) :
    Calls Try.prog 74 #[.pointer (some ⟨g, 0, none⟩)] w fun e w' => ∃ v', e = .returned (.tuple #[]) ∧ Upd [g, m, bb, lb] w w' ∧ Has w' g (walkOf (bound 74 g) c0 X v') 132 ∧ Mem w' m bb N l (cc + 1) ⟨1, q, o, o, true⟩ ∧ Row B 3 w' v' (ivals (zs ++ [t])) ∧ (∀ y ∈ ownB v', y = lb ∨ w.heap.size ≤ y) := by
  have k4 := (mayB_true.1 hm).2.1.2
  have rg := R.ne hG (by decide)
  have rm := R.ne M.hg (by decide)
  have rb := R.ne M.hb (by decide)
  have rx := R.ne hX (by decide)
  simp only [ownB_some, List.mem_cons, List.not_mem_nil, or_false, forall_eq] at rg rm rb rx
  have rg' := Ne.symm rg
  have rm' := Ne.symm rm
  have rb' := Ne.symm rb
  have rx' := Ne.symm rx
  have ne_ := Has.ne hG hX (by decide); have ne_' := Ne.symm ne_
  have ne_ := Has.ne hG M.hg (by decide); have ne_' := Ne.symm ne_
  have ne_ := Has.ne hG M.hb (by decide); have ne_' := Ne.symm ne_
  have ne_ := Has.ne hX M.hg (by decide); have ne_' := Ne.symm ne_
  have ne_ := Has.ne hX M.hb (by decide); have ne_' := Ne.symm ne_
  have hown : w.ownsRow B 3 1 (.slice (some ⟨lb, 0, none⟩) (k + 1) cap) (k + 1) (ivals zs) := by
    have h := R
    unfold Row at h
    rwa [show (ivals zs).length = k + 1 by simp [hz]] at h
  obtain ⟨_, ⟨hv0, _⟩ | ⟨lb0, cap0, cur, hv0, hB0, hL, _⟩⟩ := hown
  · cases hv0
  cases hv0
  have hL : Has w lb cur 3 := hL
  have e1 : cur[k]? = some (.int .i64 a1) := by rw [← hL.cell]; exact hc1
  have HO := Lib.hid ho
  have HQ := Lib.hid hq
  have HM := Lib.hid hm
  have HT := Lib.hid ht
  have RR := Lib.hid R
  have pj : (k : Int) + 1 - 1 = k := by omega
  have pw := wrapI_ok ((k : Int) + 1 - 1) (by omega) (by omega)
  have pw5 := wrapI_ok (k : Int) (by omega) (by omega)
  have pi0 : (0 : Int) ≤ (k : Int) := by omega
  have pi1 : (k : Int) < (k : Int) + 1 := by omega
  have hzl : zs.length ≤ 100000 := by omega
  clear ho hq hm ht R hc1 hz
  have FX_ := (hG).facts; simp only [blockFacts, listFacts, cellsAt, Nat.reduceAdd, and_true, true_and, and_assoc] at FX_
  have FX_ := (hX).facts; simp only [blockFacts, listFacts, cellsAt, Nat.reduceAdd, and_true, true_and, and_assoc, chainOf] at FX_
  have HG := hG
  have HX := hX
  have HL := hL
  have HKp := Keeps.refl w
  go_enter Try.func74, Try.ntmps74
  go_wp2
  go_region_held3 (fun y => ((((((((y.cell? ⟨g, 5, none⟩ = some (.pointer (some ⟨X, 0, none⟩)) ∧ y.cell? ⟨X, 0, none⟩ = some (.pointer (some ⟨m, 0, none⟩))) ∧ y.cell? ⟨X, 1, none⟩ = some (.int .i64 p)) ∧ y.cell? ⟨X, 2, none⟩ = some (.int .i64 K)) ∧ y.cell? ⟨X, 3, none⟩ = some (.int .i64 d)) ∧ y.cell? ⟨X, 4, none⟩ = some (.int .i64 s)) ∧ y.cell? ⟨X, 5, none⟩ = some (.int .i64 c)) ∧ y.cell? ⟨X, 6, none⟩ = some (.int .i64 b)) ∧ y.cell? ⟨g, 6, none⟩ = some (.slice (some ⟨lb, 0, none⟩) (k + 1) cap)) ∧ y.cell? ⟨lb, k, none⟩ = some (.int .i64 a1)) (((repeat' (with_reducible apply And.intro)) <;> (apply Has.cellv; (focus ((repeat (first | (with_reducible assumption) | (with_reducible exact Has.new _ _ _) | (with_reducible exact Has.new1 _ _ _ _) | (with_reducible exact Has.new2 _ _ _ _ _) | (with_reducible refine Has.newAt ?_; (simp; done)) | (with_reducible apply Has.set) | (with_reducible apply Has.far; (case hn => first | assumption | (simp; done) | (intro e_; simp at e_; omega))) | (with_reducible apply Has.alloc) | (with_reducible apply Has.drewN) | (with_reducible apply Has.drew) | (with_reducible refine Has.keeps ?_ (by with_reducible assumption)))))); (first | (with_reducible assumption) | rfl | (simp; done) | fail))))
    (first
      | (go_at_call 21; refine (link_in _ _ _ _ _ _ _ _ HM.out u0 u1).mono ?_; rintro e w' ⟨rfl, hk5⟩; rw [HQ.out]; have HG := (HG.keeps (by ((repeat' (first | (with_reducible exact Keeps.refl _) | (with_reducible assumption) | (with_reducible refine Keeps.drewN ?_ _) | (with_reducible refine Keeps.drew ?_) | (with_reducible refine Keeps.alloc ?_ _) | (with_reducible refine Keeps.setCell ?_ ?_ _) | (with_reducible refine Keeps.trans ?_ (After.keeps _)) | (with_reducible refine Keeps.trans ?_ (by with_reducible assumption)) | go_size)); (first | done | fail)))).keeps hk5; have HX := (HX.keeps (by ((repeat' (first | (with_reducible exact Keeps.refl _) | (with_reducible assumption) | (with_reducible refine Keeps.drewN ?_ _) | (with_reducible refine Keeps.drew ?_) | (with_reducible refine Keeps.alloc ?_ _) | (with_reducible refine Keeps.setCell ?_ ?_ _) | (with_reducible refine Keeps.trans ?_ (After.keeps _)) | (with_reducible refine Keeps.trans ?_ (by with_reducible assumption)) | go_size)); (first | done | fail)))).keeps hk5; have HL := (HL.keeps (by ((repeat' (first | (with_reducible exact Keeps.refl _) | (with_reducible assumption) | (with_reducible refine Keeps.drewN ?_ _) | (with_reducible refine Keeps.drew ?_) | (with_reducible refine Keeps.alloc ?_ _) | (with_reducible refine Keeps.setCell ?_ ?_ _) | (with_reducible refine Keeps.trans ?_ (After.keeps _)) | (with_reducible refine Keeps.trans ?_ (by with_reducible assumption)) | go_size)); (first | done | fail)))).keeps hk5; have HKp := (HKp.drew).trans hk5)
      | (go_at_call 102; refine (mload_in (M.keeps (by ((repeat' (first | (with_reducible exact Keeps.refl _) | (with_reducible assumption) | (with_reducible refine Keeps.drewN ?_ _) | (with_reducible refine Keeps.drew ?_) | (with_reducible refine Keeps.alloc ?_ _) | (with_reducible refine Keeps.setCell ?_ ?_ _) | (with_reducible refine Keeps.trans ?_ (After.keeps _)) | (with_reducible refine Keeps.trans ?_ (by with_reducible assumption)) | go_size)); (first | done | fail)))) q HO.out hcc).mono ?_; rintro e w' ⟨rfl, hu2, M2⟩; have HG := HG.upd hu2 (by simp only [List.mem_cons, List.not_mem_nil, or_false, not_or]; (repeat' apply And.intro) <;> assumption); have HX := HX.upd hu2 (by simp only [List.mem_cons, List.not_mem_nil, or_false, not_or]; (repeat' apply And.intro) <;> assumption); have HL := HL.upd hu2 (by simp only [List.mem_cons, List.not_mem_nil, or_false, not_or]; (repeat' apply And.intro) <;> assumption); have FX_ := (HG).facts; simp only [blockFacts, listFacts, cellsAt, Nat.reduceAdd, and_true, true_and, and_assoc] at FX_; have FX_ := (HX).facts; simp only [blockFacts, listFacts, cellsAt, Nat.reduceAdd, and_true, true_and, and_assoc, chainOf] at FX_))
  go_wp2_with (go_at_call 66; refine (chainBehind_c _ HX o0 o1 (by omega)).mono ?_; rintro e w' ⟨rfl, rfl⟩; rw [HT.out])
  have hd0 : decide (0 ≤ t) = true := decide_eq_true (by omega)
  have hd1 : decide ((k : Int) + 1 < (K : Int)) = true := decide_eq_true (by omega)
  go_quiet (fail)
  generalize hW : w'.drewN _ = W
  have hu3 : Upd [] w' W := by rw [← hW]; (repeat (first | (with_reducible exact Upd.refl _ _) | (with_reducible assumption) | (with_reducible refine Upd.setCell ?_ (by first | (left; simp; done) | (right; go_size)) _) | (with_reducible refine Upd.alloc ?_ _) | (with_reducible refine Upd.drewN ?_ _) | (with_reducible refine Upd.drew ?_)))
  have HG := HG.upd hu3 (by simp)
  have HX := HX.upd hu3 (by simp)
  have MW := M2.upd hu3 (by simp) (by simp)
  have hUW : Upd [m, bb] w W := ((Upd.of_keeps HKp).trans hu2).trans (hu3.mono (by simp))
  have RW := RR.out.upd hUW (by simp; exact ⟨rm, rb⟩)
  have szW : B ≤ W.heap.size := Nat.le_trans hB hUW.size
  clear hW
  have FX_ := (HG).facts; simp only [blockFacts, listFacts, cellsAt, Nat.reduceAdd, and_true, true_and, and_assoc] at FX_
  have FX_ := (HX).facts; simp only [blockFacts, listFacts, cellsAt, Nat.reduceAdd, and_true, true_and, and_assoc, chainOf] at FX_
  go_wp2_with (first
    | (at_builtin; refine wpList_append_ints (B := B) (v := .slice (some ⟨lb, 0, none⟩) (k + 1) cap) (xs := zs) (ys := [t]) rfl _ _ rfl _ rfl rfl (RW.alloc _) (Has.src (Has.newAt (by simp)) _) (by simp; omega) (by simp; omega) ?_; intro v1 w1 R1 U1 O1; rw [ownB_some (r := none)] at U1 O1; have HG := (HG.alloc (.cells #[.int .i64 t] 3)).upd U1 (by simpa using rg'); have MW := (MW.alloc (.cells #[.int .i64 t] 3)).upd U1 (by simpa using rm') (by simpa using rb'); obtain ⟨a9, c9, hv9, -⟩ := R1.reads; subst hv9; have n1 := R1.ne HG (by decide); have FX_ := (HG).facts; simp only [blockFacts, listFacts, cellsAt, Nat.reduceAdd, and_true, true_and, and_assoc] at FX_)
    | (go_at_call 72; go_in))
  go_end0
  have e9 : (zs ++ [t]).length = zs.length + 1 := by simp
  rw [e9] at R1 n1 O1
  have szs := hUW.size
  refine ⟨.slice a9 (zs.length + 1) c9, rfl, (((((hUW.mono (by simp)).alloc _).trans (U1.mono (by simp))).setCell (.inl (by simp)) _).setCell (.inl (by simp)) _), by (apply Has.congr; (focus ((repeat (first | (with_reducible assumption) | (with_reducible exact Has.new _ _ _) | (with_reducible exact Has.new1 _ _ _ _) | (with_reducible exact Has.new2 _ _ _ _ _) | (with_reducible refine Has.newAt ?_; (simp; done)) | (with_reducible apply Has.set) | (with_reducible apply Has.far; (case hn => first | assumption | (simp; done) | (intro e_; simp at e_; omega))) | (with_reducible apply Has.alloc) | (with_reducible apply Has.drewN) | (with_reducible apply Has.drew) | (with_reducible refine Has.keeps ?_ (by with_reducible assumption)))))); (first | rfl | (simp; done))), (by repeat' (first | (with_reducible assumption) | (with_reducible apply Mem.alloc) | (with_reducible apply Mem.drewN) | (with_reducible apply Mem.drew) | (with_reducible apply Mem.far; (case h1 => first | assumption | (simp; done) | (intro e_; simp at e_; omega)); (case h2 => first | assumption | (simp; done) | (intro e_; simp at e_; omega))))), (R1.far n1 _).far n1 _, fun y hy => ?_⟩
  rcases O1 y hy with h1 | h1
  · left; simpa using h1
  · right; simp at h1; omega
theorem walkLoad_end (hG : Has w g (walkOf .nilFunc c0 X (.slice (some ⟨lb, 0, none⟩) (k + 1) cap)) 132) (hX : Has w X (chainOf m p K d s c b P) 114) (M : Mem w m bb N l cc x) (R : Row B 3 w (.slice (some ⟨lb, 0, none⟩) (k + 1) cap) (ivals zs)) (hz : zs.length = k + 1)
    (hc1 : w.cell? ⟨lb, k, none⟩ = some (.int .i64 a1)) (hm : mayB p K d s c b = true) (u0 : 0 ≤ a1) (u1 : a1 < K) (hq : 3 + p + s + s + a1 = q) (ho : l[q]? = some o) (o0 : 0 ≤ o) (o1 : o < 18446744073709551616) (ht : belowI K o = t) (t0 : -1 ≤ t) (t1 : t ≤ 9000000) (hkK : t < 0 ∨ K ≤ k + 1) (hk9 : k ≤ 100000) (hcc : cc < 4611686018427387903) :
    Calls Try.prog 74 #[.pointer (some ⟨g, 0, none⟩)] w fun e w' => e = .returned (.tuple #[]) ∧ Upd [m, bb] w w' ∧ Mem w' m bb N l (cc + 1) ⟨1, q, o, o, true⟩ := by
  have k4 := (mayB_true.1 hm).2.1.2
  have ne_ := Has.ne hG hX (by decide); have ne_' := Ne.symm ne_
  have ne_ := Has.ne hG M.hg (by decide); have ne_' := Ne.symm ne_
  have ne_ := Has.ne hG M.hb (by decide); have ne_' := Ne.symm ne_
  have ne_ := Has.ne hX M.hg (by decide); have ne_' := Ne.symm ne_
  have ne_ := Has.ne hX M.hb (by decide); have ne_' := Ne.symm ne_
  have hown : w.ownsRow B 3 1 (.slice (some ⟨lb, 0, none⟩) (k + 1) cap) (k + 1) (ivals zs) := by
    have h := R
    unfold Row at h
    rwa [show (ivals zs).length = k + 1 by simp [hz]] at h
  obtain ⟨_, ⟨hv0, _⟩ | ⟨lb0, cap0, cur, hv0, hB0, hL, _⟩⟩ := hown
  · cases hv0
  cases hv0
  have hL : Has w lb cur 3 := hL
  have ne_ := Has.ne hL M.hg (by decide); have ne_' := Ne.symm ne_
  have ne_ := Has.ne hL M.hb (by decide); have ne_' := Ne.symm ne_
  have e1 : cur[k]? = some (.int .i64 a1) := by rw [← hL.cell]; exact hc1
  have HO := Lib.hid ho
  have HQ := Lib.hid hq
  have HM := Lib.hid hm
  have HT := Lib.hid ht
  have pj : (k : Int) + 1 - 1 = k := by omega
  have pw := wrapI_ok ((k : Int) + 1 - 1) (by omega) (by omega)
  have pw5 := wrapI_ok (k : Int) (by omega) (by omega)
  have pi0 : (0 : Int) ≤ (k : Int) := by omega
  have pi1 : (k : Int) < (k : Int) + 1 := by omega
  clear ho hq hm ht R hc1 hz
  have FX_ := (hG).facts; simp only [blockFacts, listFacts, cellsAt, Nat.reduceAdd, and_true, true_and, and_assoc] at FX_
  have FX_ := (hX).facts; simp only [blockFacts, listFacts, cellsAt, Nat.reduceAdd, and_true, true_and, and_assoc, chainOf] at FX_
  have HG := hG
  have HX := hX
  have HL := hL
  have HKp := Keeps.refl w
  go_enter Try.func74, Try.ntmps74
  go_wp2
  go_region_held3 (fun y => ((((((((y.cell? ⟨g, 5, none⟩ = some (.pointer (some ⟨X, 0, none⟩)) ∧ y.cell? ⟨X, 0, none⟩ = some (.pointer (some ⟨m, 0, none⟩))) ∧ y.cell? ⟨X, 1, none⟩ = some (.int .i64 p)) ∧ y.cell? ⟨X, 2, none⟩ = some (.int .i64 K)) ∧ y.cell? ⟨X, 3, none⟩ = some (.int .i64 d)) ∧ y.cell? ⟨X, 4, none⟩ = some (.int .i64 s)) ∧ y.cell? ⟨X, 5, none⟩ = some (.int .i64 c)) ∧ y.cell? ⟨X, 6, none⟩ = some (.int .i64 b)) ∧ y.cell? ⟨g, 6, none⟩ = some (.slice (some ⟨lb, 0, none⟩) (k + 1) cap)) ∧ y.cell? ⟨lb, k, none⟩ = some (.int .i64 a1)) (((repeat' (with_reducible apply And.intro)) <;> (apply Has.cellv; (focus ((repeat (first | (with_reducible assumption) | (with_reducible exact Has.new _ _ _) | (with_reducible exact Has.new1 _ _ _ _) | (with_reducible exact Has.new2 _ _ _ _ _) | (with_reducible refine Has.newAt ?_; (simp; done)) | (with_reducible apply Has.set) | (with_reducible apply Has.far; (case hn => first | assumption | (simp; done) | (intro e_; simp at e_; omega))) | (with_reducible apply Has.alloc) | (with_reducible apply Has.drewN) | (with_reducible apply Has.drew) | (with_reducible refine Has.keeps ?_ (by with_reducible assumption)))))); (first | (with_reducible assumption) | rfl | (simp; done) | fail))))
    (first
      | (go_at_call 21; refine (link_in _ _ _ _ _ _ _ _ HM.out u0 u1).mono ?_; rintro e w' ⟨rfl, hk5⟩; rw [HQ.out]; have HG := (HG.keeps (by ((repeat' (first | (with_reducible exact Keeps.refl _) | (with_reducible assumption) | (with_reducible refine Keeps.drewN ?_ _) | (with_reducible refine Keeps.drew ?_) | (with_reducible refine Keeps.alloc ?_ _) | (with_reducible refine Keeps.setCell ?_ ?_ _) | (with_reducible refine Keeps.trans ?_ (After.keeps _)) | (with_reducible refine Keeps.trans ?_ (by with_reducible assumption)) | go_size)); (first | done | fail)))).keeps hk5; have HX := (HX.keeps (by ((repeat' (first | (with_reducible exact Keeps.refl _) | (with_reducible assumption) | (with_reducible refine Keeps.drewN ?_ _) | (with_reducible refine Keeps.drew ?_) | (with_reducible refine Keeps.alloc ?_ _) | (with_reducible refine Keeps.setCell ?_ ?_ _) | (with_reducible refine Keeps.trans ?_ (After.keeps _)) | (with_reducible refine Keeps.trans ?_ (by with_reducible assumption)) | go_size)); (first | done | fail)))).keeps hk5; have HL := (HL.keeps (by ((repeat' (first | (with_reducible exact Keeps.refl _) | (with_reducible assumption) | (with_reducible refine Keeps.drewN ?_ _) | (with_reducible refine Keeps.drew ?_) | (with_reducible refine Keeps.alloc ?_ _) | (with_reducible refine Keeps.setCell ?_ ?_ _) | (with_reducible refine Keeps.trans ?_ (After.keeps _)) | (with_reducible refine Keeps.trans ?_ (by with_reducible assumption)) | go_size)); (first | done | fail)))).keeps hk5; have HKp := (HKp.drew).trans hk5)
      | (go_at_call 102; refine (mload_in (M.keeps (by ((repeat' (first | (with_reducible exact Keeps.refl _) | (with_reducible assumption) | (with_reducible refine Keeps.drewN ?_ _) | (with_reducible refine Keeps.drew ?_) | (with_reducible refine Keeps.alloc ?_ _) | (with_reducible refine Keeps.setCell ?_ ?_ _) | (with_reducible refine Keeps.trans ?_ (After.keeps _)) | (with_reducible refine Keeps.trans ?_ (by with_reducible assumption)) | go_size)); (first | done | fail)))) q HO.out hcc).mono ?_; rintro e w' ⟨rfl, hu2, M2⟩; have HG := HG.upd hu2 (by simp only [List.mem_cons, List.not_mem_nil, or_false, not_or]; (repeat' apply And.intro) <;> assumption); have HX := HX.upd hu2 (by simp only [List.mem_cons, List.not_mem_nil, or_false, not_or]; (repeat' apply And.intro) <;> assumption); have HL := HL.upd hu2 (by simp only [List.mem_cons, List.not_mem_nil, or_false, not_or]; (repeat' apply And.intro) <;> assumption); have FX_ := (HG).facts; simp only [blockFacts, listFacts, cellsAt, Nat.reduceAdd, and_true, true_and, and_assoc] at FX_; have FX_ := (HX).facts; simp only [blockFacts, listFacts, cellsAt, Nat.reduceAdd, and_true, true_and, and_assoc, chainOf] at FX_))
  go_wp2_with (go_at_call 66; refine (chainBehind_c _ HX o0 o1 (by omega)).mono ?_; rintro e w' ⟨rfl, rfl⟩; rw [HT.out])
  by_cases ht0 : 0 ≤ t
  · have hd0 : decide (0 ≤ t) = true := decide_eq_true ht0
    have hd1 : decide ((k : Int) + 1 < (K : Int)) = false := decide_eq_false (by omega)
    clear hkK
    go_quiet (fail)
    go_wp2
    go_end0
    exact ⟨rfl, ((Upd.of_keeps HKp).trans hu2).drewN _, M2.drewN _⟩
  · have hd0 : decide (0 ≤ t) = false := decide_eq_false ht0
    clear hkK
    go_quiet (fail)
    go_wp2
    go_end0
    exact ⟨rfl, ((Upd.of_keeps HKp).trans hu2).drewN _, M2.drewN _⟩
end
end Go.Proofs.Ytcohhfndaogikaa
