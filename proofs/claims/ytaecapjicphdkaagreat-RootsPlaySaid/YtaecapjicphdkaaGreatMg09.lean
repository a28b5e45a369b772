/- The machine Pop: its links, one more item. -/
import Derived.Test.YtaecapjicphdkaaGreatMg07
import Derived.Deep.RegionLaw
import Derived.Deep.AppendLies
import Derived.OwnWalk
namespace Go.Proofs.YtaecapjicphdkaaGreat
set_option linter.unusedVariables false
set_option linter.unusedSimpArgs false
open Go Go.RowKit
set_option maxRecDepth 100000
attribute [local go_sem ↓] Go.wp_at_zero Go.wp_at_succ
set_option maxHeartbeats 1000000

section
variable {w : World} {S m b N : Nat} {hd : Nat} {lk n : Int} {l : List Int} {cc : Int} {x : Acc} {g lb k cap i q B : Nat} {cur : Array Value} {c was a1 a2 o most under t : Int}
theorem popLink_on (hP : Has w g (popOf .nilFunc c S most under was (.slice (some ⟨lb, 0, none⟩) (k + 1) cap)) 177) (hS : Has w S (stackOf m hd lk n) 143) (M : Mem w m b N l cc x)
    (hL : Has w lb cur 3) (hc1 : cur[k]? = some (.int .i64 a1)) (hk1 : k ≤ 1000000) (hq : lk + a1 = q) (hq1 : q ≤ 9000000) (ho : l[q]? = some o) (o0 : 0 ≤ o) (o1 : o < 18446744073709551616) (n0 : 0 ≤ n) (n1 : n ≤ 9000000) (ht : belowI n o = t) (t0 : -1 ≤ t) (t1 : t ≤ 9000000) (hcc : cc < 4611686018427387903) (t00 : 0 ≤ t) (hm : (k : Int) + 1 < most) {xs : List Value} (hR : w.ownsRow B 3 1 (.slice (some ⟨lb, 0, none⟩) (k + 1) cap) (k + 1) xs) (hB : B ≤ w.heap.size) :
    Calls Tryz.prog 134 #[.pointer (some ⟨g, 0, none⟩)] w fun e w' => ∃ v', e = .returned (.tuple #[]) ∧ Upd [g, m, b, lb] w w' ∧
      Has w' g (popOf (bound 134 g) c S most t was v') 177 ∧ Mem w' m b N l (cc + 1) ⟨1, q, o, o, true⟩ ∧ w'.ownsRow B 3 1 v' (k + 2) (xs ++ [.int .i64 t]) ∧ (ownB v' = [lb] ∨ ∃ r, ownB v' = [r] ∧ w.heap.size ≤ r) := by
  obtain ⟨i0, hi, hz0, hz1, hz2⟩ := info_parts info_int
  have ne_ := Has.ne hP hS (by decide); have ne_' := Ne.symm ne_
  have ne_ := Has.ne hP M.hg (by decide); have ne_' := Ne.symm ne_
  have ne_ := Has.ne hP M.hb (by decide); have ne_' := Ne.symm ne_
  have ne_ := Has.ne hP hL (by decide); have ne_' := Ne.symm ne_
  have ne_ := Has.ne hS M.hg (by decide); have ne_' := Ne.symm ne_
  have ne_ := Has.ne hS M.hb (by decide); have ne_' := Ne.symm ne_
  have ne_ := Has.ne hL M.hg (by decide); have ne_' := Ne.symm ne_
  have ne_ := Has.ne hL M.hb (by decide); have ne_' := Ne.symm ne_
  have ne_ := Has.ne hL hS (by decide); have ne_' := Ne.symm ne_
  have HO := Lib.hid ho
  have HQ := Lib.hid hq
  have HT := Lib.hid ht
  have p0 : 0 ≤ lk + a1 := by omega
  have p1 : lk + a1 ≤ 9000000 := by omega
  have pw := wrapI_ok (lk + a1) (by omega) (by omega)
  have pw4 := wrapI_ok ((k : Int) + 1 - 1) (by omega) (by omega)
  have pj : (k : Int) + 1 - 1 = k := by omega
  have pw5 := wrapI_ok (k : Int) (by omega) (by omega)
  have pi0 : (0 : Int) ≤ (k : Int) := by omega
  have pi1 : (k : Int) < (k : Int) + 1 := by omega
  clear ho hq ht
  have FX_ := (hP).facts; simp only [blockFacts, listFacts, cellsAt, Nat.reduceAdd, and_true, true_and, and_assoc] at FX_
  have FX_ := (hS).facts; simp only [blockFacts, listFacts, cellsAt, Nat.reduceAdd, and_true, true_and, and_assoc, stackOf] at FX_
  have HP := hP
  have HS := hS
  have HL := hL
  go_enter Tryz.func134, Tryz.ntmps134
  go_wp2
  go_region_held3 (fun y => (((y.cell? ⟨g, 5, none⟩ = some (.pointer (some ⟨S, 0, none⟩)) ∧ y.cell? ⟨S, 0, none⟩ = some (.pointer (some ⟨m, 0, none⟩))) ∧ y.cell? ⟨S, 2, none⟩ = some (.int .i64 lk)) ∧ y.cell? ⟨g, 9, none⟩ = some (.slice (some ⟨lb, 0, none⟩) (k + 1) cap)) ∧ y.cell? ⟨lb, k, none⟩ = some (.int .i64 a1)) (((repeat' (with_reducible apply And.intro)) <;> (apply Has.cellv; (focus ((repeat (first | (with_reducible assumption) | (with_reducible exact Has.new _ _ _) | (with_reducible exact Has.new1 _ _ _ _) | (with_reducible exact Has.new2 _ _ _ _ _) | (with_reducible refine Has.newAt ?_; (simp; done)) | (with_reducible apply Has.set) | (with_reducible apply Has.far; (case hn => first | assumption | (simp; done) | (intro e_; simp at e_; omega))) | (with_reducible apply Has.alloc) | (with_reducible apply Has.drewN) | (with_reducible apply Has.drew) | (with_reducible refine Has.keeps ?_ (by with_reducible assumption)))))); (first | (with_reducible assumption) | rfl | (simp; done) | fail))))
    ((go_at_call 118; refine (mload_at (M.keeps (by ((repeat' (first | (with_reducible exact Keeps.refl _) | (with_reducible assumption) | (with_reducible refine Keeps.drewN ?_ _) | (with_reducible refine Keeps.drew ?_) | (with_reducible refine Keeps.alloc ?_ _) | (with_reducible refine Keeps.setCell ?_ ?_ _) | (with_reducible refine Keeps.trans ?_ (After.keeps _)) | (with_reducible refine Keeps.trans ?_ (by with_reducible assumption)) | go_size)); (first | done | fail)))) q _ HQ.out HO.out hcc).mono ?_; rintro e w' ⟨rfl, hu2, M2⟩; have HP := (HP.keeps (by ((repeat' (first | (with_reducible exact Keeps.refl _) | (with_reducible assumption) | (with_reducible refine Keeps.drewN ?_ _) | (with_reducible refine Keeps.drew ?_) | (with_reducible refine Keeps.alloc ?_ _) | (with_reducible refine Keeps.setCell ?_ ?_ _) | (with_reducible refine Keeps.trans ?_ (After.keeps _)) | (with_reducible refine Keeps.trans ?_ (by with_reducible assumption)) | go_size)); (first | done | fail)))).upd hu2 (by simp only [List.mem_cons, List.not_mem_nil, or_false, not_or]; (repeat' apply And.intro) <;> assumption); have HS := (HS.keeps (by ((repeat' (first | (with_reducible exact Keeps.refl _) | (with_reducible assumption) | (with_reducible refine Keeps.drewN ?_ _) | (with_reducible refine Keeps.drew ?_) | (with_reducible refine Keeps.alloc ?_ _) | (with_reducible refine Keeps.setCell ?_ ?_ _) | (with_reducible refine Keeps.trans ?_ (After.keeps _)) | (with_reducible refine Keeps.trans ?_ (by with_reducible assumption)) | go_size)); (first | done | fail)))).upd hu2 (by simp only [List.mem_cons, List.not_mem_nil, or_false, not_or]; (repeat' apply And.intro) <;> assumption); have HL := (HL.keeps (by ((repeat' (first | (with_reducible exact Keeps.refl _) | (with_reducible assumption) | (with_reducible refine Keeps.drewN ?_ _) | (with_reducible refine Keeps.drew ?_) | (with_reducible refine Keeps.alloc ?_ _) | (with_reducible refine Keeps.setCell ?_ ?_ _) | (with_reducible refine Keeps.trans ?_ (After.keeps _)) | (with_reducible refine Keeps.trans ?_ (by with_reducible assumption)) | go_size)); (first | done | fail)))).upd hu2 (by simp only [List.mem_cons, List.not_mem_nil, or_false, not_or]; (repeat' apply And.intro) <;> assumption); have FX_ := (HP).facts; simp only [blockFacts, listFacts, cellsAt, Nat.reduceAdd, and_true, true_and, and_assoc] at FX_; have FX_ := (HS).facts; simp only [blockFacts, listFacts, cellsAt, Nat.reduceAdd, and_true, true_and, and_assoc, stackOf] at FX_))
  go_wp2_with (go_at_call 96; refine (below_c _ HS o0 o1 n0 n1).mono ?_; rintro e w' ⟨rfl, rfl⟩; rw [HT.out])
  refine wp_named' (fun W hW => ?_)
  have hu3 : Upd [g] w' W := by rw [hW]; (repeat (first | (with_reducible exact Upd.refl _ _) | (with_reducible assumption) | (with_reducible refine Upd.setCell ?_ (by first | (left; simp; done) | (right; go_size)) _) | (with_reducible refine Upd.alloc ?_ _) | (with_reducible refine Upd.drewN ?_ _) | (with_reducible refine Upd.drew ?_)))
  have HP : Has W g (popOf .nilFunc c S most t was (.slice (some ⟨lb, 0, none⟩) (k + 1) cap)) 177 := by rw [hW]; (apply Has.congr; (focus ((repeat (first | (with_reducible assumption) | (with_reducible exact Has.new _ _ _) | (with_reducible exact Has.new1 _ _ _ _) | (with_reducible exact Has.new2 _ _ _ _ _) | (with_reducible refine Has.newAt ?_; (simp; done)) | (with_reducible apply Has.set) | (with_reducible apply Has.far; (case hn => first | assumption | (simp; done) | (intro e_; simp at e_; omega))) | (with_reducible apply Has.alloc) | (with_reducible apply Has.drewN) | (with_reducible apply Has.drew) | (with_reducible refine Has.keeps ?_ (by with_reducible assumption)))))); (first | rfl | (simp; done)))
  have MW := M2.upd hu3 (by simp only [List.mem_cons, List.not_mem_nil, or_false, not_or]; (repeat' apply And.intro) <;> assumption) (by simp only [List.mem_cons, List.not_mem_nil, or_false, not_or]; (repeat' apply And.intro) <;> assumption)
  clear hW
  have hd0 : decide (0 ≤ t) = true := decide_eq_true (by omega)
  have hd1 : decide ((k : Int) + 1 < most) = true := decide_eq_true hm
  have HR := own_upd (own_upd (own_keeps hR (Keeps.refl w).drew) hu2 (by simp; exact ⟨by assumption, by assumption⟩)) hu3 (by simp; assumption)
  have FX_ := (HP).facts; simp only [blockFacts, listFacts, cellsAt, Nat.reduceAdd, and_true, true_and, and_assoc] at FX_
  go_quiet (fail)
  go_wp2
  refine wp_named' (fun W2 hW2 => ?_)
  have HK2 : Keeps W W2 := by rw [hW2]; ((repeat' (first | (with_reducible exact Keeps.refl _) | (with_reducible assumption) | (with_reducible refine Keeps.drewN ?_ _) | (with_reducible refine Keeps.drew ?_) | (with_reducible refine Keeps.alloc ?_ _) | (with_reducible refine Keeps.setCell ?_ ?_ _) | (with_reducible refine Keeps.trans ?_ (After.keeps _)) | (with_reducible refine Keeps.trans ?_ (by with_reducible assumption)) | go_size)); (first | done | fail))
  have HP := HP.keeps HK2
  have HR := own_keeps HR HK2
  have MW := MW.keeps HK2
  clear hW2
  have FX_ := (HP).facts; simp only [blockFacts, listFacts, cellsAt, Nat.reduceAdd, and_true, true_and, and_assoc] at FX_
  have szW : B ≤ W2.heap.size := by have := HK2.size; have := hu2.size; have := hu3.size; simp at *; omega
  go_region_law ((refine step_append_lies _ (by rfl) _ _ _ (by rfl) B 3 i0 _ 1 8 Tryz.underlying49 hi hz0 hz1 hz2 rfl (by decide) _ _ _ (by rfl) (own_keeps HR (by ((repeat' (first | (with_reducible exact Keeps.refl _) | (with_reducible assumption) | (with_reducible refine Keeps.drewN ?_ _) | (with_reducible refine Keeps.drew ?_) | (with_reducible refine Keeps.alloc ?_ _) | (with_reducible refine Keeps.setCell ?_ ?_ _) | (with_reducible refine Keeps.trans ?_ (After.keeps _)) | (with_reducible refine Keeps.trans ?_ (by with_reducible assumption)) | go_size)); (first | done | fail)))) _ 1 1 [.int .i64 t] (by rfl) rfl (news_one (Has.new _ _ _)) (by intro u hu; simp at hu; subst hu; rfl) (by omega) (by unfold maxLen; omega) (by omega) (by simp; omega) _ rfl ?_; intro g1 cap1 w1 hown1 hgrow1 hat1 hlt1; have HP1 := (Has.keeps HP (by ((repeat' (first | (with_reducible exact Keeps.refl _) | (with_reducible assumption) | (with_reducible refine Keeps.drewN ?_ _) | (with_reducible refine Keeps.drew ?_) | (with_reducible refine Keeps.alloc ?_ _) | (with_reducible refine Keeps.setCell ?_ ?_ _) | (with_reducible refine Keeps.trans ?_ (After.keeps _)) | (with_reducible refine Keeps.trans ?_ (by with_reducible assumption)) | go_size)); (first | done | fail)))).upd (Upd.grown hgrow1) (by simp [Act.eval]; assumption); have MW1 := (Mem.keeps MW (by ((repeat' (first | (with_reducible exact Keeps.refl _) | (with_reducible assumption) | (with_reducible refine Keeps.drewN ?_ _) | (with_reducible refine Keeps.drew ?_) | (with_reducible refine Keeps.alloc ?_ _) | (with_reducible refine Keeps.setCell ?_ ?_ _) | (with_reducible refine Keeps.trans ?_ (After.keeps _)) | (with_reducible refine Keeps.trans ?_ (by with_reducible assumption)) | go_size)); (first | done | fail)))).upd (Upd.grown hgrow1) (by simp [Act.eval]; assumption) (by simp [Act.eval]; assumption); have FX_ := (HP1).facts; simp only [blockFacts, listFacts, cellsAt, Nat.reduceAdd, and_true, true_and, and_assoc] at FX_))
  all_goals go_wp2_with (go_at_call 41; go_in)
  all_goals go_end0
  all_goals (
    have hne := own_ne hown1 HP1 (by decide)
    have hu4 : Upd [g] w1 ((w1.setCell ⟨g, 9, none⟩ (.slice (some ⟨g1, 0, none⟩) (k + 1 + 1) cap1)).setCell ⟨g, 0, none⟩ (bound 134 g)) := by (repeat (first | (with_reducible exact Upd.refl _ _) | (with_reducible assumption) | (with_reducible refine Upd.setCell ?_ (by first | (left; simp; done) | (right; go_size)) _) | (with_reducible refine Upd.alloc ?_ _) | (with_reducible refine Upd.drewN ?_ _) | (with_reducible refine Upd.drew ?_)))
    have hU' : Upd [g, m, b, lb] (W2.alloc (.cells #[.int .i64 t] 3)).drew w1 := (Upd.grown hgrow1).mono (by simp)
    have hA : Upd [g, m, b, lb] w w1 := (Upd.drew (Upd.refl _ _)).trans ((hu2.mono (by simp)).trans ((hu3.mono (by simp)).trans ((((Upd.of_keeps HK2).alloc _).drew).trans hU')))
    refine ⟨_, rfl, hA.trans (hu4.mono (by simp)), by (apply Has.congr; (focus ((repeat (first | (with_reducible assumption) | (with_reducible exact Has.new _ _ _) | (with_reducible exact Has.new1 _ _ _ _) | (with_reducible exact Has.new2 _ _ _ _ _) | (with_reducible refine Has.newAt ?_; (simp; done)) | (with_reducible apply Has.set) | (with_reducible apply Has.far; (case hn => first | assumption | (simp; done) | (intro e_; simp at e_; omega))) | (with_reducible apply Has.alloc) | (with_reducible apply Has.drewN) | (with_reducible apply Has.drew) | (with_reducible refine Has.keeps ?_ (by with_reducible assumption)))))); (first | rfl | (simp; done))), (by repeat' (first | (with_reducible assumption) | (with_reducible apply Mem.alloc) | (with_reducible apply Mem.drewN) | (with_reducible apply Mem.drew) | (with_reducible apply Mem.far; (case h1 => first | assumption | (simp; done) | (intro e_; simp at e_; omega)); (case h2 => first | assumption | (simp; done) | (intro e_; simp at e_; omega))))), own_upd hown1 hu4 (fun x hx => by simp; exact hne x hx), ?_⟩
    rcases hat1 with h1 | h1
    · left
      simp [Value.ownBlock] at h1
      simp [ownB_some, h1]
    · right
      refine ⟨g1, by simp, ?_⟩
      have k1 := hu2.size
      have k2 := hu3.size
      have k3 := HK2.size
      simp at h1 k1
      omega)
end
end Go.Proofs.YtaecapjicphdkaaGreat
