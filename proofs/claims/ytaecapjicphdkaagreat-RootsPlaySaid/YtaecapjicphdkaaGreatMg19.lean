/- The document's Pop, walked: the Load of the head of a stack with items, the Load of a link. -/
import Derived.Test.YtaecapjicphdkaaGreatMg18
import Derived.Deep.RegionLaw
namespace Go.Proofs.YtaecapjicphdkaaGreat
set_option linter.unusedVariables false
set_option linter.unusedSimpArgs false
open Go Go.RowKit
set_option maxRecDepth 100000
attribute [local go_sem ↓] Go.wp_at_zero Go.wp_at_succ
set_option maxHeartbeats 1000000

section
variable {w : World} {S g b N hd lk n T k : Nat} {l : List Int} {cc o mo de : Int}
/-- The Load of the head of a stack with items. -/
theorem rpop_some {v : Value} (hT : Has w T (rpopOf S mo 0 de o v false) 160) (hS : Has w S (rstackOf g hd lk n) 136) (M : RMem w g b N l cc) (L : StOk hd lk n N l) (hcc : cc < 4611686018427387903) (ht : 0 ≤ topI n (l.getD hd 0)) :
    Calls Tryz.prog 97 #[.pointer (some ⟨T, 0, none⟩)] w fun e w' => ∃ v', e = .returned (.bool true) ∧ Upd [T, g, b] w w' ∧ Has w' T (rpopOf S mo 1 de (l.getD hd 0) v' false) 160 ∧ RMem w' g b N l (cc + 1) ∧ Row w.heap.size 3 w' v' (ivals [topI n (l.getD hd 0)]) := by
  have hl2 := L.len
  have hl5 := L.hd1
  have nTg : T ≠ g := hT.ne M.hg (by decide)
  have nTb : T ≠ b := hT.ne M.hb (by decide)
  have nTS : T ≠ S := hT.ne hS (by decide)
  have nST := Ne.symm nTS
  have nSg : S ≠ g := hS.ne M.hg (by decide)
  have nSb : S ≠ b := hS.ne M.hb (by decide)
  have HO : Hid (l[hd]? = some (l.getD hd 0)) := Lib.hid (getD_some (by omega))
  obtain ⟨o0, o1⟩ := L.words _ (List.mem_of_getElem? HO.out)
  generalize l.getD hd 0 = lw at *
  obtain ⟨tp, htp⟩ : ∃ tp, topI n lw = tp := ⟨_, rfl⟩
  rw [htp] at ht ⊢
  have HTP := Lib.hid htp
  clear htp
  have ht' : ¬ tp < 0 := by omega
  have HT := hT
  have HS := hS
  have FX_ := (hT).facts; simp only [blockFacts, listFacts, cellsAt, Nat.reduceAdd, and_true, true_and, and_assoc] at FX_
  have FX_ := (hS).facts; simp only [blockFacts, listFacts, cellsAt, Nat.reduceAdd, and_true, true_and, and_assoc, rstackOf] at FX_
  go_enter Tryz.func97, Tryz.ntmps97
  go_wp2
  go_region_held3 (fun y => y.cell? ⟨S, 0, none⟩ = some (.pointer (some ⟨g, 0, none⟩)) ∧ y.cell? ⟨S, 1, none⟩ = some (.int .i64 hd)) (((repeat' (with_reducible apply And.intro)) <;> (apply Has.cellv; (focus ((repeat (first | (with_reducible assumption) | (with_reducible exact Has.new _ _ _) | (with_reducible exact Has.new1 _ _ _ _) | (with_reducible exact Has.new2 _ _ _ _ _) | (with_reducible refine Has.newAt ?_; (simp; done)) | (with_reducible apply Has.set) | (with_reducible apply Has.far; (case hn => first | assumption | (simp; done) | (intro e_; simp at e_; omega))) | (with_reducible apply Has.alloc) | (with_reducible apply Has.drewN) | (with_reducible apply Has.drew) | (with_reducible refine Has.keeps ?_ (by with_reducible assumption)))))); (first | (with_reducible assumption) | rfl | (simp; done) | fail))))
    ((go_at_call 100; refine (rmload (M.keeps (by ((repeat' (first | (with_reducible exact Keeps.refl _) | (with_reducible assumption) | (with_reducible refine Keeps.drewN ?_ _) | (with_reducible refine Keeps.drew ?_) | (with_reducible refine Keeps.alloc ?_ _) | (with_reducible refine Keeps.setCell ?_ ?_ _) | (with_reducible refine Keeps.trans ?_ (After.keeps _)) | (with_reducible refine Keeps.trans ?_ (by with_reducible assumption)) | go_size)); (first | done | fail)))) hd HO.out hcc).mono ?_; rintro e w' ⟨rfl, hu2, M2⟩; have HT := (HT.keeps (by ((repeat' (first | (with_reducible exact Keeps.refl _) | (with_reducible assumption) | (with_reducible refine Keeps.drewN ?_ _) | (with_reducible refine Keeps.drew ?_) | (with_reducible refine Keeps.alloc ?_ _) | (with_reducible refine Keeps.setCell ?_ ?_ _) | (with_reducible refine Keeps.trans ?_ (After.keeps _)) | (with_reducible refine Keeps.trans ?_ (by with_reducible assumption)) | go_size)); (first | done | fail)))).upd hu2 (by simp only [List.mem_cons, List.not_mem_nil, or_false, not_or]; (repeat' apply And.intro) <;> assumption); have HS := (HS.keeps (by ((repeat' (first | (with_reducible exact Keeps.refl _) | (with_reducible assumption) | (with_reducible refine Keeps.drewN ?_ _) | (with_reducible refine Keeps.drew ?_) | (with_reducible refine Keeps.alloc ?_ _) | (with_reducible refine Keeps.setCell ?_ ?_ _) | (with_reducible refine Keeps.trans ?_ (After.keeps _)) | (with_reducible refine Keeps.trans ?_ (by with_reducible assumption)) | go_size)); (first | done | fail)))).upd hu2 (by simp only [List.mem_cons, List.not_mem_nil, or_false, not_or]; (repeat' apply And.intro) <;> assumption); have hu3 := (Upd.of_keeps (S := [g, b]) (Keeps.drew (Keeps.refl w))).trans hu2; have FX_ := (HT).facts; simp only [blockFacts, listFacts, cellsAt, Nat.reduceAdd, and_true, true_and, and_assoc] at FX_))
  have hUa : Upd [T] w' ((w'.setCell ⟨T, 4, none⟩ (.int .u64 lw)).setCell ⟨T, 5, none⟩ (.slice none 0 0)) := ((Upd.refl _ _).setCell (.inl (by simp)) _).setCell (.inl (by simp)) _
  have HSb := HS.upd hUa (by simpa using nST)
  have HTb : Has ((w'.setCell ⟨T, 4, none⟩ (.int .u64 lw)).setCell ⟨T, 5, none⟩ (.slice none 0 0)) T (rpopOf S mo 0 de lw (.slice none 0 0) false) 160 := by (apply Has.congr; (focus ((repeat (first | (with_reducible assumption) | (with_reducible exact Has.new _ _ _) | (with_reducible exact Has.new1 _ _ _ _) | (with_reducible exact Has.new2 _ _ _ _ _) | (with_reducible refine Has.newAt ?_; (simp; done)) | (with_reducible apply Has.set) | (with_reducible apply Has.far; (case hn => first | assumption | (simp; done) | (intro e_; simp at e_; omega))) | (with_reducible apply Has.alloc) | (with_reducible apply Has.drewN) | (with_reducible apply Has.drew) | (with_reducible refine Has.keeps ?_ (by with_reducible assumption)))))); (first | rfl | (simp; done)))
  have M3 := M2.upd hUa (by simpa using Ne.symm nTg) (by simpa using Ne.symm nTb)
  have hu4 := (hu3.mono (T := [T, g, b]) (by simp)).trans (hUa.mono (by simp))
  go_wp2_with (first
    | (go_at_call 67; refine (rtop_c _ HSb o0 o1).mono ?_; rintro e w' ⟨rfl, hk5⟩; rw [HTP.out]; have HTb := HTb.keeps hk5; have M3 := M3.keeps hk5; have hu4 := hu4.trans (Upd.of_keeps hk5); have FX_ := (HTb).facts; simp only [blockFacts, listFacts, cellsAt, Nat.reduceAdd, and_true, true_and, and_assoc] at FX_)
    | (at_builtin; refine wpList_append_ints (B := w.heap.size) (v := .slice none 0 0) (xs := []) (ys := [tp]) (by rfl) _ _ (by rfl) _ (by rfl) (by rfl) (Row.nil _ _ _) (Has.src (Has.newAt (by simp)) _) (by simp) (by have := hu4.size; simp; omega) ?_; intro v1 w1 R1 U1 O1; rw [List.nil_append] at R1; obtain ⟨a1, c1, hv1, -⟩ := R1.reads; generalize List.length _ = n1 at hv1; subst hv1; have K1 := ((Keeps.refl w').alloc (.cells #[.int .i64 tp] 3)).trans U1.keeps; have HTb := HTb.keeps K1; have M3 := M3.keeps K1; have hu4 := hu4.trans (Upd.of_keeps K1); have FX_ := (HTb).facts; simp only [blockFacts, listFacts, cellsAt, Nat.reduceAdd, and_true, true_and, and_assoc] at FX_))
  go_ret
  have hUT : Upd [T] w1 ((w1.setCell ⟨T, 5, none⟩ (.slice a1 n1 c1)).setCell ⟨T, 2, none⟩ (.int .i64 1)) := ((Upd.refl _ _).setCell (.inl (by simp)) _).setCell (.inl (by simp)) _
  exact ⟨_, rfl, hu4.trans (hUT.mono (by simp)), by (apply Has.congr; (focus ((repeat (first | (with_reducible assumption) | (with_reducible exact Has.new _ _ _) | (with_reducible exact Has.new1 _ _ _ _) | (with_reducible exact Has.new2 _ _ _ _ _) | (with_reducible refine Has.newAt ?_; (simp; done)) | (with_reducible apply Has.set) | (with_reducible apply Has.far; (case hn => first | assumption | (simp; done) | (intro e_; simp at e_; omega))) | (with_reducible apply Has.alloc) | (with_reducible apply Has.drewN) | (with_reducible apply Has.drew) | (with_reducible refine Has.keeps ?_ (by with_reducible assumption)))))); (first | rfl | (simp; done))), M3.upd hUT (by simpa using Ne.symm nTg) (by simpa using Ne.symm nTb), R1.upd hUT (fun y hy => by simp only [List.mem_cons, List.not_mem_nil, or_false]; exact R1.ne HTb (by decide) y hy)⟩
theorem Keeps.up5 {a b c : World} {S : List Nat} (h : Keeps a b) (k : Upd S b c) : Upd S a c := (Upd.of_keeps h).trans k
/-- What the Load of a link brings about. -/
def rlinkPost (w w' : World) (S g b N T B lb : Nat) (l got : List Int) (cc mo u o k : Int) : Prop := ∃ v', Upd [T, g, b, lb] w w' ∧
  (if 0 ≤ u ∧ k + 1 < mo then Has w' T (rpopOf S mo 1 u o v' false) 160 ∧ Row B 3 w' v' (ivals (got ++ [u]))
    else Has w' T (rpopOf S mo 2 u o v' false) 160 ∧ Row B 3 w' v' (ivals got)) ∧ RMem w' g b N l (cc + 1) ∧ (∀ y ∈ ownB v', y = lb ∨ w.heap.size ≤ y)
/-- The Load of a link: what both ways share. -/
theorem rpop_link {q : Nat} {z : Int} {lb cap B : Nat} {cur : Array Value} {got : List Int} (hT : Has w T (rpopOf S mo 1 de o (.slice (some ⟨lb, 0, none⟩) (k + 1) cap) false) 160) (hS : Has w S (rstackOf g hd lk n) 136) (M : RMem w g b N l cc) (L : StOk hd lk n N l) (hk2 : k ≤ 100000) (hcc : cc < 4611686018427387903)
    (hQ : Has w lb cur 3) (hz : cur[k]? = some (.int .i64 z)) (z0 : 0 ≤ z) (z1 : z < n) (hq : (lk : Int) + z = q) (RL : Row B 3 w (.slice (some ⟨lb, 0, none⟩) (k + 1) cap) (ivals got)) (hgl : got.length = k + 1) (hB : B ≤ w.heap.size) :
    Calls Tryz.prog 97 #[.pointer (some ⟨T, 0, none⟩)] w fun e w' => e = .returned (.bool true) ∧ rlinkPost w w' S g b N T B lb l got cc mo (belowI n (l.getD q 0)) o k := by
  have hl1 := L.lk1
  have hl2 := L.len
  have hl3 := L.small
  have hl4 := L.n1
  have nTg : T ≠ g := hT.ne M.hg (by decide)
  have nTb : T ≠ b := hT.ne M.hb (by decide)
  have nTS : T ≠ S := hT.ne hS (by decide)
  have nST := Ne.symm nTS
  have nSg : S ≠ g := hS.ne M.hg (by decide)
  have nSb : S ≠ b := hS.ne M.hb (by decide)
  have nQg : lb ≠ g := hQ.ne M.hg (by decide)
  have nQb : lb ≠ b := hQ.ne M.hb (by decide)
  have nQT : lb ≠ T := hQ.ne hT (by decide)
  have HO : Hid (l[q]? = some (l.getD q 0)) := Lib.hid (getD_some (by omega))
  obtain ⟨o0, o1⟩ := L.words _ (List.mem_of_getElem? HO.out)
  have HQq := Lib.hid hq
  generalize l.getD q 0 = lw at *
  obtain ⟨u, htp⟩ : ∃ u, belowI n lw = u := ⟨_, rfl⟩
  have tb := belowI_bd n lw o0
  rw [htp] at tb
  obtain ⟨tb0, tb1⟩ := tb
  have HTP := Lib.hid htp
  rw [htp]
  clear htp
  have pk : (k : Int) + 1 - 1 = k := by omega
  have pw := wrapI_ok ((k : Int) + 1 - 1) (by omega) (by omega)
  have pwi := wrapI_ok (k : Int) (by omega) (by omega)
  have pw3 := wrapI_ok ((lk : Int) + z) (by omega) (by omega)
  have i0 : (0 : Int) ≤ (k : Int) := by omega
  have i1 : (k : Int) < (k : Int) + 1 := by omega
  have HT := hT
  have HS := hS
  have HQ := hQ
  have HR := Lib.hid RL
  clear hq RL
  have FX_ := (hT).facts; simp only [blockFacts, listFacts, cellsAt, Nat.reduceAdd, and_true, true_and, and_assoc] at FX_
  have FX_ := (hS).facts; simp only [blockFacts, listFacts, cellsAt, Nat.reduceAdd, and_true, true_and, and_assoc, rstackOf] at FX_
  go_enter Tryz.func97, Tryz.ntmps97
  go_wp2
  go_region_held3 (fun y => ((y.cell? ⟨S, 0, none⟩ = some (.pointer (some ⟨g, 0, none⟩)) ∧ y.cell? ⟨S, 2, none⟩ = some (.int .i64 lk)) ∧ y.cell? ⟨T, 5, none⟩ = some (.slice (some ⟨lb, 0, none⟩) (k + 1) cap)) ∧ y.cell? ⟨lb, k, none⟩ = some (.int .i64 z)) (((repeat' (with_reducible apply And.intro)) <;> (apply Has.cellv; (focus ((repeat (first | (with_reducible assumption) | (with_reducible exact Has.new _ _ _) | (with_reducible exact Has.new1 _ _ _ _) | (with_reducible exact Has.new2 _ _ _ _ _) | (with_reducible refine Has.newAt ?_; (simp; done)) | (with_reducible apply Has.set) | (with_reducible apply Has.far; (case hn => first | assumption | (simp; done) | (intro e_; simp at e_; omega))) | (with_reducible apply Has.alloc) | (with_reducible apply Has.drewN) | (with_reducible apply Has.drew) | (with_reducible refine Has.keeps ?_ (by with_reducible assumption)))))); (first | (with_reducible assumption) | rfl | (simp; done) | fail))))
    (first
      | (go_at_call 100; rw [HQq.out]; refine (rmload (M.keeps (by ((repeat' (first | (with_reducible exact Keeps.refl _) | (with_reducible assumption) | (with_reducible refine Keeps.drewN ?_ _) | (with_reducible refine Keeps.drew ?_) | (with_reducible refine Keeps.alloc ?_ _) | (with_reducible refine Keeps.setCell ?_ ?_ _) | (with_reducible refine Keeps.trans ?_ (After.keeps _)) | (with_reducible refine Keeps.trans ?_ (by with_reducible assumption)) | go_size)); (first | done | fail)))) q HO.out hcc).mono ?_; rintro e w' ⟨rfl, hu2, M2⟩; have HT := (HT.keeps (by ((repeat' (first | (with_reducible exact Keeps.refl _) | (with_reducible assumption) | (with_reducible refine Keeps.drewN ?_ _) | (with_reducible refine Keeps.drew ?_) | (with_reducible refine Keeps.alloc ?_ _) | (with_reducible refine Keeps.setCell ?_ ?_ _) | (with_reducible refine Keeps.trans ?_ (After.keeps _)) | (with_reducible refine Keeps.trans ?_ (by with_reducible assumption)) | go_size)); (first | done | fail)))).upd hu2 (by simp only [List.mem_cons, List.not_mem_nil, or_false, not_or]; (repeat' apply And.intro) <;> assumption); have HS := (HS.keeps (by ((repeat' (first | (with_reducible exact Keeps.refl _) | (with_reducible assumption) | (with_reducible refine Keeps.drewN ?_ _) | (with_reducible refine Keeps.drew ?_) | (with_reducible refine Keeps.alloc ?_ _) | (with_reducible refine Keeps.setCell ?_ ?_ _) | (with_reducible refine Keeps.trans ?_ (After.keeps _)) | (with_reducible refine Keeps.trans ?_ (by with_reducible assumption)) | go_size)); (first | done | fail)))).upd hu2 (by simp only [List.mem_cons, List.not_mem_nil, or_false, not_or]; (repeat' apply And.intro) <;> assumption); have HQ := (HQ.keeps (by ((repeat' (first | (with_reducible exact Keeps.refl _) | (with_reducible assumption) | (with_reducible refine Keeps.drewN ?_ _) | (with_reducible refine Keeps.drew ?_) | (with_reducible refine Keeps.alloc ?_ _) | (with_reducible refine Keeps.setCell ?_ ?_ _) | (with_reducible refine Keeps.trans ?_ (After.keeps _)) | (with_reducible refine Keeps.trans ?_ (by with_reducible assumption)) | go_size)); (first | done | fail)))).upd hu2 (by simp only [List.mem_cons, List.not_mem_nil, or_false, not_or]; (repeat' apply And.intro) <;> assumption); have hu3 := (Upd.of_keeps (S := [g, b]) (Keeps.drew (Keeps.refl w))).trans hu2; have FX_ := (HT).facts; simp only [blockFacts, listFacts, cellsAt, Nat.reduceAdd, and_true, true_and, and_assoc] at FX_)
      | (go_at_call 68; refine (rbelow_c _ HS o0 o1 (by omega)).mono ?_; rintro e w' ⟨rfl, rfl⟩; rw [HTP.out]))
  have hUa : Upd [T] w' (w'.setCell ⟨T, 3, none⟩ (.int .i64 u)) := (Upd.refl _ _).setCell (.inl (by simp)) _
  have HTb : Has (w'.setCell ⟨T, 3, none⟩ (.int .i64 u)) T (rpopOf S mo 1 u o (.slice (some ⟨lb, 0, none⟩) (k + 1) cap) false) 160 := by (apply Has.congr; (focus ((repeat (first | (with_reducible assumption) | (with_reducible exact Has.new _ _ _) | (with_reducible exact Has.new1 _ _ _ _) | (with_reducible exact Has.new2 _ _ _ _ _) | (with_reducible refine Has.newAt ?_; (simp; done)) | (with_reducible apply Has.set) | (with_reducible apply Has.far; (case hn => first | assumption | (simp; done) | (intro e_; simp at e_; omega))) | (with_reducible apply Has.alloc) | (with_reducible apply Has.drewN) | (with_reducible apply Has.drew) | (with_reducible refine Has.keeps ?_ (by with_reducible assumption)))))); (first | rfl | (simp; done)))
  have M3 := M2.upd hUa (by simpa using Ne.symm nTg) (by simpa using Ne.symm nTb)
  have hu4 := (hu3.mono (T := [T, g, b]) (by simp)).trans (hUa.mono (by simp))
  have R2 := HR.out.upd hu4 (by simp; exact ⟨nQT, nQg, nQb⟩)
  generalize w'.setCell ⟨T, 3, none⟩ (.int .i64 u) = W2 at HTb M3 hu4 R2 ⊢
  have HT := HTb
  have M2 := M3
  clear HTb M3 hUa hu3 hu2 HQ HS
  have FX_ := (HT).facts; simp only [blockFacts, listFacts, cellsAt, Nat.reduceAdd, and_true, true_and, and_assoc] at FX_
  by_cases hb : 0 ≤ u ∧ (k : Int) + 1 < mo
  · have HB := Lib.hid hb
    have hd0 : decide (0 ≤ u) = true := decide_eq_true hb.1
    have hd1 : decide ((k : Int) + 1 < mo) = true := decide_eq_true hb.2
    clear hb
    go_wp2
    go_quiet (fail)
    go_wp2
    generalize hW9 : W2.drewN _ = W3
    have hk3 : Keeps W2 W3 := by rw [← hW9]; ((repeat' (first | (with_reducible exact Keeps.refl _) | (with_reducible assumption) | (with_reducible refine Keeps.drewN ?_ _) | (with_reducible refine Keeps.drew ?_) | (with_reducible refine Keeps.alloc ?_ _) | (with_reducible refine Keeps.setCell ?_ ?_ _) | (with_reducible refine Keeps.trans ?_ (After.keeps _)) | (with_reducible refine Keeps.trans ?_ (by with_reducible assumption)) | go_size)); (first | done | fail))
    clear hW9
    have HT := HT.keeps hk3
    have M2 := M2.keeps hk3
    have hu4 := hu4.trans (Upd.of_keeps hk3)
    have R2 := R2.keeps hk3
    have szW := hu4.size
    have FX_ := (HT).facts; simp only [blockFacts, listFacts, cellsAt, Nat.reduceAdd, and_true, true_and, and_assoc] at FX_
    go_region_law ((refine step_append_ints (B := B) (by rfl) _ _ (by rfl) _ (by rfl) (by rfl) (R2.keeps (by ((repeat' (first | (with_reducible exact Keeps.refl _) | (with_reducible assumption) | (with_reducible refine Keeps.drewN ?_ _) | (with_reducible refine Keeps.drew ?_) | (with_reducible refine Keeps.alloc ?_ _) | (with_reducible refine Keeps.setCell ?_ ?_ _) | (with_reducible refine Keeps.trans ?_ (After.keeps _)) | (with_reducible refine Keeps.trans ?_ (by with_reducible assumption)) | go_size)); (first | done | fail)))) (Has.src (z := u) (Has.new _ _ _) _) (by rw [hgl]; simp; omega) (by simp; omega) ?_; intro v5 w5 R5 U5 O5; obtain ⟨a5, c5, hv5, -⟩ := R5.reads; generalize List.length _ = n5 at hv5; subst hv5; have HT5 := (Has.keeps HT (by ((repeat' (first | (with_reducible exact Keeps.refl _) | (with_reducible assumption) | (with_reducible refine Keeps.drewN ?_ _) | (with_reducible refine Keeps.drew ?_) | (with_reducible refine Keeps.alloc ?_ _) | (with_reducible refine Keeps.setCell ?_ ?_ _) | (with_reducible refine Keeps.trans ?_ (After.keeps _)) | (with_reducible refine Keeps.trans ?_ (by with_reducible assumption)) | go_size)); (first | done | fail)))).upd U5 (by simp [Act.eval]; exact Ne.symm nQT); have FX_ := (HT5).facts; simp only [blockFacts, listFacts, cellsAt, Nat.reduceAdd, and_true, true_and, and_assoc] at FX_))
    all_goals (
      go_wp2
      go_ret
      refine ⟨rfl, ?_⟩
      unfold rlinkPost
      have hUT : Upd [T] w5 (w5.setCell ⟨T, 5, none⟩ (.slice a5 n5 c5)) := (Upd.refl _ _).setCell (.inl (by simp)) _
      have hU5 : Upd [lb] W3 w5 := ((Keeps.refl W3).alloc (.cells #[.int .i64 u] 3)).drew.up5 U5
      exact ⟨.slice a5 n5 c5, ((hu4.mono (T := [T, g, b, lb]) (by simp)).trans (hU5.mono (by simp))).trans (hUT.mono (by simp)), by rw [if_pos HB.out]; exact ⟨by (apply Has.congr; (focus ((repeat (first | (with_reducible assumption) | (with_reducible exact Has.new _ _ _) | (with_reducible exact Has.new1 _ _ _ _) | (with_reducible exact Has.new2 _ _ _ _ _) | (with_reducible refine Has.newAt ?_; (simp; done)) | (with_reducible apply Has.set) | (with_reducible apply Has.far; (case hn => first | assumption | (simp; done) | (intro e_; simp at e_; omega))) | (with_reducible apply Has.alloc) | (with_reducible apply Has.drewN) | (with_reducible apply Has.drew) | (with_reducible refine Has.keeps ?_ (by with_reducible assumption)))))); (first | rfl | (simp; done))), R5.upd hUT (fun y hy => by simp only [List.mem_cons, List.not_mem_nil, or_false]; exact R5.ne HT5 (by decide) y hy)⟩, ((M2.upd hU5 (by simpa using Ne.symm nQg) (by simpa using Ne.symm nQb))).upd hUT (by simpa using Ne.symm nTg) (by simpa using Ne.symm nTb), fun y hy => by
        rcases O5 y hy with h1 | h1
        · left; simpa using h1
        · right; simp at h1; omega⟩)
  · have HB := Lib.hid hb
    by_cases h0 : 0 ≤ u
    · have hd0 : decide (0 ≤ u) = true := decide_eq_true h0
      have hd1 : decide ((k : Int) + 1 < mo) = false := decide_eq_false (fun h => hb ⟨h0, h⟩)
      clear hb
      go_wp2
      go_quiet (fail)
      go_wp2
      generalize hW9 : W2.drewN _ = W3
      have hk3 : Keeps W2 W3 := by rw [← hW9]; ((repeat' (first | (with_reducible exact Keeps.refl _) | (with_reducible assumption) | (with_reducible refine Keeps.drewN ?_ _) | (with_reducible refine Keeps.drew ?_) | (with_reducible refine Keeps.alloc ?_ _) | (with_reducible refine Keeps.setCell ?_ ?_ _) | (with_reducible refine Keeps.trans ?_ (After.keeps _)) | (with_reducible refine Keeps.trans ?_ (by with_reducible assumption)) | go_size)); (first | done | fail))
      clear hW9
      have HT := HT.keeps hk3
      have M2 := M2.keeps hk3
      have hu4 := hu4.trans (Upd.of_keeps hk3)
      have R2 := R2.keeps hk3
      have FX_ := (HT).facts; simp only [blockFacts, listFacts, cellsAt, Nat.reduceAdd, and_true, true_and, and_assoc] at FX_
      go_wp2
      go_ret
      have hUT : Upd [T] W3 (W3.setCell ⟨T, 2, none⟩ (.int .i64 2)) := (Upd.refl _ _).setCell (.inl (by simp)) _
      refine ⟨rfl, ?_⟩
      unfold rlinkPost
      exact ⟨.slice (some ⟨lb, 0, none⟩) (k + 1) cap, (hu4.trans (hUT.mono (T := [T, g, b]) (by simp))).mono (by simp), by rw [if_neg HB.out]; exact ⟨by (apply Has.congr; (focus ((repeat (first | (with_reducible assumption) | (with_reducible exact Has.new _ _ _) | (with_reducible exact Has.new1 _ _ _ _) | (with_reducible exact Has.new2 _ _ _ _ _) | (with_reducible refine Has.newAt ?_; (simp; done)) | (with_reducible apply Has.set) | (with_reducible apply Has.far; (case hn => first | assumption | (simp; done) | (intro e_; simp at e_; omega))) | (with_reducible apply Has.alloc) | (with_reducible apply Has.drewN) | (with_reducible apply Has.drew) | (with_reducible refine Has.keeps ?_ (by with_reducible assumption)))))); (first | rfl | (simp; done))), R2.upd hUT (fun y hy => by simp only [List.mem_cons, List.not_mem_nil, or_false]; exact R2.ne HT (by decide) y hy)⟩, M2.upd hUT (by simpa using Ne.symm nTg) (by simpa using Ne.symm nTb), fun y hy => by left; simpa using hy⟩
    · have hd0 : decide (0 ≤ u) = false := decide_eq_false h0
      clear hb
      go_wp2
      go_quiet (fail)
      go_wp2
      generalize hW9 : W2.drewN _ = W3
      have hk3 : Keeps W2 W3 := by rw [← hW9]; ((repeat' (first | (with_reducible exact Keeps.refl _) | (with_reducible assumption) | (with_reducible refine Keeps.drewN ?_ _) | (with_reducible refine Keeps.drew ?_) | (with_reducible refine Keeps.alloc ?_ _) | (with_reducible refine Keeps.setCell ?_ ?_ _) | (with_reducible refine Keeps.trans ?_ (After.keeps _)) | (with_reducible refine Keeps.trans ?_ (by with_reducible assumption)) | go_size)); (first | done | fail))
      clear hW9
      have HT := HT.keeps hk3
      have M2 := M2.keeps hk3
      have hu4 := hu4.trans (Upd.of_keeps hk3)
      have R2 := R2.keeps hk3
      have FX_ := (HT).facts; simp only [blockFacts, listFacts, cellsAt, Nat.reduceAdd, and_true, true_and, and_assoc] at FX_
      go_wp2
      go_ret
      have hUT : Upd [T] W3 (W3.setCell ⟨T, 2, none⟩ (.int .i64 2)) := (Upd.refl _ _).setCell (.inl (by simp)) _
      refine ⟨rfl, ?_⟩
      unfold rlinkPost
      exact ⟨.slice (some ⟨lb, 0, none⟩) (k + 1) cap, (hu4.trans (hUT.mono (T := [T, g, b]) (by simp))).mono (by simp), by rw [if_neg HB.out]; exact ⟨by (apply Has.congr; (focus ((repeat (first | (with_reducible assumption) | (with_reducible exact Has.new _ _ _) | (with_reducible exact Has.new1 _ _ _ _) | (with_reducible exact Has.new2 _ _ _ _ _) | (with_reducible refine Has.newAt ?_; (simp; done)) | (with_reducible apply Has.set) | (with_reducible apply Has.far; (case hn => first | assumption | (simp; done) | (intro e_; simp at e_; omega))) | (with_reducible apply Has.alloc) | (with_reducible apply Has.drewN) | (with_reducible apply Has.drew) | (with_reducible refine Has.keeps ?_ (by with_reducible assumption)))))); (first | rfl | (simp; done))), R2.upd hUT (fun y hy => by simp only [List.mem_cons, List.not_mem_nil, or_false]; exact R2.ne HT (by decide) y hy)⟩, M2.upd hUT (by simpa using Ne.symm nTg) (by simpa using Ne.symm nTb), fun y hy => by left; simpa using hy⟩
end
end Go.Proofs.YtaecapjicphdkaaGreat
