/- The document's chain: what stands; Set's access; Walk; Behind. -/
import Derived.Test.YtcohhfndaogikaaR11W
namespace Go.Proofs.Ytcohhfndaogikaa
set_option linter.unusedVariables false
set_option linter.unusedSimpArgs false
open Go Go.RowKit
set_option maxRecDepth 100000
attribute [local go_sem ↓] Go.wp_at_zero Go.wp_at_succ
set_option maxHeartbeats 1000000

theorem rlink_in (p k d s c b n : Int) (w : World) (h : mayB p k d s c b = true) (n0 : 0 ≤ n) (n1 : n < k) :
    Calls Try.prog 33 #[.agg #[.int .i64 p, .int .i64 k, .int .i64 d, .int .i64 s, .int .i64 c, .int .i64 b], .int .i64 n] w fun e w' => e = .returned (.int .i64 (3 + p + s + s + n)) ∧ Keeps w w' := by
  have e9 : clinkI p k d s c b n = 3 + p + s + s + n := by
    unfold clinkI; rw [atI_t h (by omega) (by omega)]
    try omega
  rw [← e9]
  exact rclink_c p k d s c b n w
/-- What stands of the document's chain. -/
structure RChAt (w : World) (W g bb N P lk K : Nat) (p d s c b : Int) (l : List Int) (cc : Int) : Prop where
  hW : ∃ Sp E, Has w W (rwOf p K d s c b g (pto P) Sp E) 73
  hP : Has w P (rstackOf g (0 : Nat) lk K) 98
  M : RMem w g bb N l cc
  ok : StOk 0 lk K N l
  may : mayB p K d s c b = true
  hlk : (lk : Int) = 3 + p + s + s
section
variable {w : World} {W g bb N P lk K T B lb cap k : Nat} {l zs : List Int} {cc : Int} {p d s c b : Int}
theorem RChAt.nW (h : RChAt w W g bb N P lk K p d s c b l cc) : W ∉ [g, bb] ∧ P ∉ [g, bb] := by
  obtain ⟨_, _, hW⟩ := h.hW
  simp only [List.mem_cons, List.not_mem_nil, or_false, not_or]
  exact ⟨⟨hW.ne h.M.hg (by decide), hW.ne h.M.hb (by decide)⟩, ⟨h.hP.ne h.M.hg (by decide), h.hP.ne h.M.hb (by decide)⟩⟩
theorem RChAt.step {w' : World} {S : List Nat} {l' : List Int} {cc' : Int} (h : RChAt w W g bb N P lk K p d s c b l cc) (hu : Upd S w w') (hX : W ∉ S) (hP : P ∉ S) (M' : RMem w' g bb N l' cc') (ok' : StOk 0 lk K N l') : RChAt w' W g bb N P lk K p d s c b l' cc' := by
  obtain ⟨Sp, E, hW⟩ := h.hW
  exact ⟨⟨Sp, E, hW.upd hu hX⟩, h.hP.upd hu hP, M', ok', h.may, h.hlk⟩
theorem RChAt.upd {w' : World} {S : List Nat} (h : RChAt w W g bb N P lk K p d s c b l cc) (hu : Upd S w w') (hX : W ∉ S) (hP : P ∉ S) (hg : g ∉ S) (hb : bb ∉ S) : RChAt w' W g bb N P lk K p d s c b l cc :=
  h.step hu hX hP (h.M.upd hu hg hb) h.ok
theorem RChAt.keeps {w' : World} (h : RChAt w W g bb N P lk K p d s c b l cc) (k : Keeps w w') : RChAt w' W g bb N P lk K p d s c b l cc :=
  h.upd (Upd.of_keeps (S := []) k) (by simp) (by simp) (by simp) (by simp)
theorem rset_c {q : Nat} {u t : Int} (hT : Has w T #[pto W, .int .i64 u, .int .i64 t, .bool false] 64) (h : RChAt w W g bb N P lk K p d s c b l cc) (u0 : 0 ≤ u) (u1 : u < K) (t0 : -1 ≤ t) (t1 : t < K) (hq : (lk : Int) + u = q) (hcc : cc < 1000000) :
    Calls Try.prog 31 #[.pointer (some ⟨T, 0, none⟩)] w fun e w' => e = .returned (.bool true) ∧ Upd [g, bb, T] w w' ∧ RChAt w' W g bb N P lk K p d s c b (l.set q (t + 1)) (cc + 1) := by
  obtain ⟨Sp, E, hW⟩ := h.hW
  have M := h.M
  have k4 := (mayB_true.1 h.may).2.1.2
  have hl := h.hlk
  have hlk1 := h.ok.lk1
  have hlen := h.ok.len
  have nTg : T ≠ g := hT.ne M.hg (by decide)
  have nTb : T ≠ bb := hT.ne M.hb (by decide)
  have nTW : T ≠ W := hT.ne hW (by decide)
  have nTP : T ≠ P := hT.ne h.hP (by decide)
  have nWg : W ≠ g := hW.ne M.hg (by decide)
  have nWb : W ≠ bb := hW.ne M.hb (by decide)
  have HQ : Hid (3 + p + s + s + u = (q : Int)) := Lib.hid (by omega)
  have HO : Hid (l[q]? = some (l.getD q 0)) := Lib.hid (getD_some (by omega))
  have HM := Lib.hid h.may
  have HH := Lib.hid h
  have hcc2 : cc < 4611686018427387903 := by omega
  have pw := wrapI_ok (t + 1) (by omega) (by omega)
  have pw2 := wrapW_ok (t + 1) (by omega) (by omega)
  have HB1 : Hid (q < N) := Lib.hid (by omega)
  clear h hq hl
  have HT := hT
  have HW := hW
  have FX_ := (hT).facts; simp only [blockFacts, listFacts, cellsAt, Nat.reduceAdd, and_true, true_and, and_assoc, pto] at FX_
  have FX_ := (hW).facts; simp only [blockFacts, listFacts, cellsAt, Nat.reduceAdd, and_true, true_and, and_assoc, rwOf] at FX_
  have HKp := Keeps.refl w
  go_enter Try.func31, Try.ntmps31
  go_wp2
  go_region_held3 (fun y => ((((((((y.cell? ⟨T, 0, none⟩ = some (.pointer (some ⟨W, 0, none⟩)) ∧ y.cell? ⟨W, 6, none⟩ = some (.pointer (some ⟨g, 0, none⟩))) ∧ y.cell? ⟨W, 0, none⟩ = some (.int .i64 p)) ∧ y.cell? ⟨W, 1, none⟩ = some (.int .i64 K)) ∧ y.cell? ⟨W, 2, none⟩ = some (.int .i64 d)) ∧ y.cell? ⟨W, 3, none⟩ = some (.int .i64 s)) ∧ y.cell? ⟨W, 4, none⟩ = some (.int .i64 c)) ∧ y.cell? ⟨W, 5, none⟩ = some (.int .i64 b)) ∧ y.cell? ⟨T, 1, none⟩ = some (.int .i64 u)) ∧ y.cell? ⟨T, 2, none⟩ = some (.int .i64 t)) (((repeat' (with_reducible apply And.intro)) <;> (apply Has.cellv; (focus ((repeat (first | (with_reducible assumption) | (with_reducible exact Has.new _ _ _) | (with_reducible exact Has.new1 _ _ _ _) | (with_reducible exact Has.new2 _ _ _ _ _) | (with_reducible refine Has.newAt ?_; (simp; done)) | (with_reducible apply Has.set) | (with_reducible apply Has.far; (case hn => first | assumption | (simp; done) | (intro e_; simp at e_; omega))) | (with_reducible apply Has.alloc) | (with_reducible apply Has.drewN) | (with_reducible apply Has.drew) | (with_reducible refine Has.keeps ?_ (by with_reducible assumption)))))); (first | (with_reducible assumption) | rfl | (simp; done) | fail))))
    (first
      | (go_at_call 33; refine (rlink_in _ _ _ _ _ _ _ _ HM.out u0 u1).mono ?_; rintro e w' ⟨rfl, hk5⟩; rw [HQ.out]; have HT := (HT.keeps (by ((repeat' (first | (with_reducible exact Keeps.refl _) | (with_reducible assumption) | (with_reducible refine Keeps.drewN ?_ _) | (with_reducible refine Keeps.drew ?_) | (with_reducible refine Keeps.alloc ?_ _) | (with_reducible refine Keeps.setCell ?_ ?_ _) | (with_reducible refine Keeps.trans ?_ (After.keeps _)) | (with_reducible refine Keeps.trans ?_ (by with_reducible assumption)) | go_size)); (first | done | fail)))).keeps hk5; have HW := (HW.keeps (by ((repeat' (first | (with_reducible exact Keeps.refl _) | (with_reducible assumption) | (with_reducible refine Keeps.drewN ?_ _) | (with_reducible refine Keeps.drew ?_) | (with_reducible refine Keeps.alloc ?_ _) | (with_reducible refine Keeps.setCell ?_ ?_ _) | (with_reducible refine Keeps.trans ?_ (After.keeps _)) | (with_reducible refine Keeps.trans ?_ (by with_reducible assumption)) | go_size)); (first | done | fail)))).keeps hk5; have HKp := (HKp.drew).trans hk5)
      | (go_at_call 78; refine (rmstore (M.keeps (by ((repeat' (first | (with_reducible exact Keeps.refl _) | (with_reducible assumption) | (with_reducible refine Keeps.drewN ?_ _) | (with_reducible refine Keeps.drew ?_) | (with_reducible refine Keeps.alloc ?_ _) | (with_reducible refine Keeps.setCell ?_ ?_ _) | (with_reducible refine Keeps.trans ?_ (After.keeps _)) | (with_reducible refine Keeps.trans ?_ (by with_reducible assumption)) | go_size)); (first | done | fail)))) q _ HO.out hcc2).mono ?_; rintro e w' ⟨rfl, hu2, M2⟩; have HT := HT.upd hu2 (by simp only [List.mem_cons, List.not_mem_nil, or_false, not_or]; (repeat' apply And.intro) <;> assumption); have HW := HW.upd hu2 (by simp only [List.mem_cons, List.not_mem_nil, or_false, not_or]; (repeat' apply And.intro) <;> assumption); have FX_ := (HT).facts; simp only [blockFacts, listFacts, cellsAt, Nat.reduceAdd, and_true, true_and, and_assoc, pto] at FX_))
  go_wp2
  go_ret
  have hU : Upd [g, bb, T] w _ := ((((Upd.of_keeps HKp).trans hu2).mono (by simp)).setCell (p := ⟨T, 3, none⟩) (.inl (by simp)) (.bool true) : Upd [g, bb, T] w (w'.setCell ⟨T, 3, none⟩ (.bool true)))
  have hU3 : Upd [T] w' (w'.setCell ⟨T, 3, none⟩ (.bool true)) := (Upd.refl _ _).setCell (.inl (by simp)) _
  have n2 := HH.out.nW
  simp only [List.mem_cons, List.not_mem_nil, or_false, not_or] at n2
  exact ⟨rfl, hU, HH.out.step hU (by simp; exact ⟨nWg, nWb, Ne.symm nTW⟩) (by simp; exact ⟨n2.2.1, n2.2.2, Ne.symm nTP⟩) (M2.upd hU3 (by simpa using Ne.symm nTg) (by simpa using Ne.symm nTb)) (HH.out.ok.set _ _ (by omega) (by omega))⟩
end
abbrev rwalkOf (W : Nat) (v : Value) (dn : Bool) : Array Value := #[pto W, v, .bool dn]
section
variable {w : World} {W g bb N P lk K T B lb cap k : Nat} {l zs : List Int} {cc : Int} {p d s c b : Int} {v : Value}
theorem rmkWalk_c (W : Nat) (u : Int) (w : World) :
    Calls Try.prog 35 #[.pointer (some ⟨W, 0, none⟩), .int .i64 u] w fun e w' => ∃ T lb, e = .returned (.pointer (some ⟨T, 0, none⟩)) ∧ Keeps w w' ∧ w.heap.size ≤ T ∧ Has w' T (rwalkOf W (.slice (some ⟨lb, 0, none⟩) 1 1) false) 77 ∧ Row w.heap.size 3 w' (.slice (some ⟨lb, 0, none⟩) 1 1) (ivals [u]) := by
  go_enter Try.func35, Try.ntmps35
  go_wp2
  go_ret
  exact ⟨w.heap.size + 1, w.heap.size, rfl, by ((repeat' (first | (with_reducible exact Keeps.refl _) | (with_reducible assumption) | (with_reducible refine Keeps.drewN ?_ _) | (with_reducible refine Keeps.drew ?_) | (with_reducible refine Keeps.alloc ?_ _) | (with_reducible refine Keeps.setCell ?_ ?_ _) | (with_reducible refine Keeps.trans ?_ (After.keeps _)) | (with_reducible refine Keeps.trans ?_ (by with_reducible assumption)) | go_size)); (first | done | fail)), by omega, by (apply Has.congr; (focus ((repeat (first | (with_reducible assumption) | (with_reducible exact Has.new _ _ _) | (with_reducible exact Has.new1 _ _ _ _) | (with_reducible exact Has.new2 _ _ _ _ _) | (with_reducible refine Has.newAt ?_; (simp; done)) | (with_reducible apply Has.set) | (with_reducible apply Has.far; (case hn => first | assumption | (simp; done) | (intro e_; simp at e_; omega))) | (with_reducible apply Has.alloc) | (with_reducible apply Has.drewN) | (with_reducible apply Has.drew) | (with_reducible refine Has.keeps ?_ (by with_reducible assumption)))))); (first | rfl | (simp; done))), Row.one (by (apply Has.congr; (focus ((repeat (first | (with_reducible assumption) | (with_reducible exact Has.new _ _ _) | (with_reducible exact Has.new1 _ _ _ _) | (with_reducible exact Has.new2 _ _ _ _ _) | (with_reducible refine Has.newAt ?_; (simp; done)) | (with_reducible apply Has.set) | (with_reducible apply Has.far; (case hn => first | assumption | (simp; done) | (intro e_; simp at e_; omega))) | (with_reducible apply Has.alloc) | (with_reducible apply Has.drewN) | (with_reducible apply Has.drew) | (with_reducible refine Has.keeps ?_ (by with_reducible assumption)))))); (first | rfl | (simp; done)))) (Nat.le_refl _)⟩
theorem rwalk_done (hT : Has w T (rwalkOf W v true) 77) :
    Calls Try.prog 36 #[.pointer (some ⟨T, 0, none⟩)] w fun e w' => e = .returned (.bool false) ∧ w = w' := by
  have FX_ := (hT).facts; simp only [blockFacts, listFacts, cellsAt, Nat.reduceAdd, and_true, true_and, and_assoc, pto] at FX_
  go_enter Try.func36, Try.ntmps36
  go_wp2
  go_ret
  exact ⟨rfl, rfl⟩
theorem rwalk_on {t : Int} (hT : Has w T (rwalkOf W v false) 77) (h : RChAt w W g bb N P lk K p d s c b l cc) (R : Row B 3 w v (ivals zs)) (hz : zs.length = k + 1) (hzb : 0 ≤ zs.getD k 0 ∧ zs.getD k 0 < K) (ht : belowI K (l.getD ((lk : Int) + zs.getD k 0).toNat 0) = t) (t0 : 0 ≤ t) (hkK : k + 1 < K) (hB : B ≤ w.heap.size) (hcc : cc < 1000000000) :
    Calls Try.prog 36 #[.pointer (some ⟨T, 0, none⟩)] w fun e w' => e = .returned (.bool true) ∧ ∃ v', Upd (T :: g :: bb :: ownB v) w w' ∧ Has w' T (rwalkOf W v' false) 77 ∧ RChAt w' W g bb N P lk K p d s c b l (cc + 1) ∧ Row B 3 w' v' (ivals (zs ++ [t])) ∧ (∀ y ∈ ownB v', y ∈ ownB v ∨ w.heap.size ≤ y) := by
  obtain ⟨Sp, E, hW⟩ := h.hW
  have M := h.M
  have hP := h.hP
  have k4 := (mayB_true.1 h.may).2.1.2
  have hl := h.hlk
  have hlk1 := h.ok.lk1
  have hlen := h.ok.len
  obtain ⟨q, hq⟩ : ∃ q : Nat, ((lk : Int) + zs.getD k 0).toNat = q := ⟨_, rfl⟩
  rw [hq] at ht
  have ho : l[q]? = some (l.getD q 0) := getD_some (by omega)
  obtain ⟨o0, o1⟩ := h.ok.words _ (List.mem_of_getElem? ho)
  obtain ⟨tb0, tb1⟩ := belowI_bd K _ o0
  rw [ht] at tb0 tb1
  have hzn : zs ≠ [] := List.length_pos_iff.1 (by omega)
  obtain ⟨lb, cap, cur, hv, hL, hcur⟩ := R.formI hzn
  rw [hz] at hv
  subst hv
  have e1 := hcur k (by omega)
  have nTg : T ≠ g := hT.ne M.hg (by decide)
  have nTb : T ≠ bb := hT.ne M.hb (by decide)
  have nTW : T ≠ W := hT.ne hW (by decide)
  have nTP : T ≠ P := hT.ne hP (by decide)
  have nWg : W ≠ g := hW.ne M.hg (by decide)
  have nWb : W ≠ bb := hW.ne M.hb (by decide)
  have nPg : P ≠ g := hP.ne M.hg (by decide)
  have nPb : P ≠ bb := hP.ne M.hb (by decide)
  have nlT : lb ≠ T := hL.ne hT (by decide)
  have nlg : lb ≠ g := hL.ne M.hg (by decide)
  have nlb : lb ≠ bb := hL.ne M.hb (by decide)
  have nlW : lb ≠ W := hL.ne hW (by decide)
  have nlP : lb ≠ P := hL.ne hP (by decide)
  have HQ : Hid (3 + p + s + s + zs.getD k 0 = (q : Int)) := Lib.hid (by omega)
  have HO := Lib.hid ho
  have HM := Lib.hid h.may
  have HH := Lib.hid h
  have HTt := Lib.hid ht
  have RR := Lib.hid R
  have hcc2 : cc < 4611686018427387903 := by omega
  obtain ⟨u0, u1⟩ := hzb
  have pj : (k : Int) + 1 - 1 = k := by omega
  have pw := wrapI_ok ((k : Int) + 1 - 1) (by omega) (by omega)
  have pw5 := wrapI_ok (k : Int) (by omega) (by omega)
  have pi0 : (0 : Int) ≤ (k : Int) := by omega
  have pi1 : (k : Int) < (k : Int) + 1 := by omega
  have hk9 : K ≤ 9000000 := by omega
  have hzl : zs.length ≤ 100001 := by omega
  generalize zs.getD k 0 = a1 at *
  generalize l.getD q 0 = o at *
  clear ho hq ht R hz h hl
  have HT := hT
  have HW := hW
  have HP := hP
  have HL := hL
  have FX_ := (hT).facts; simp only [blockFacts, listFacts, cellsAt, Nat.reduceAdd, and_true, true_and, and_assoc, pto] at FX_
  have FX_ := (hW).facts; simp only [blockFacts, listFacts, cellsAt, Nat.reduceAdd, and_true, true_and, and_assoc, rwOf, pto] at FX_
  have HKp := Keeps.refl w
  go_enter Try.func36, Try.ntmps36
  go_wp2
  go_region_held3 (fun y => (((((((((y.cell? ⟨T, 0, none⟩ = some (.pointer (some ⟨W, 0, none⟩)) ∧ y.cell? ⟨W, 6, none⟩ = some (.pointer (some ⟨g, 0, none⟩))) ∧ y.cell? ⟨W, 0, none⟩ = some (.int .i64 p)) ∧ y.cell? ⟨W, 1, none⟩ = some (.int .i64 K)) ∧ y.cell? ⟨W, 2, none⟩ = some (.int .i64 d)) ∧ y.cell? ⟨W, 3, none⟩ = some (.int .i64 s)) ∧ y.cell? ⟨W, 4, none⟩ = some (.int .i64 c)) ∧ y.cell? ⟨W, 5, none⟩ = some (.int .i64 b)) ∧ y.cell? ⟨W, 7, none⟩ = some (.pointer (some ⟨P, 0, none⟩))) ∧ y.cell? ⟨T, 1, none⟩ = some (.slice (some ⟨lb, 0, none⟩) (k + 1) cap)) ∧ y.cell? ⟨lb, k, none⟩ = some (.int .i64 a1)) (((repeat' (with_reducible apply And.intro)) <;> (apply Has.cellv; (focus ((repeat (first | (with_reducible assumption) | (with_reducible exact Has.new _ _ _) | (with_reducible exact Has.new1 _ _ _ _) | (with_reducible exact Has.new2 _ _ _ _ _) | (with_reducible refine Has.newAt ?_; (simp; done)) | (with_reducible apply Has.set) | (with_reducible apply Has.far; (case hn => first | assumption | (simp; done) | (intro e_; simp at e_; omega))) | (with_reducible apply Has.alloc) | (with_reducible apply Has.drewN) | (with_reducible apply Has.drew) | (with_reducible refine Has.keeps ?_ (by with_reducible assumption)))))); (first | (with_reducible assumption) | rfl | (simp; done) | fail))))
    (first
      | (go_at_call 33; refine (rlink_in _ _ _ _ _ _ _ _ HM.out u0 u1).mono ?_; rintro e w' ⟨rfl, hk5⟩; rw [HQ.out]; have HT := (HT.keeps (by ((repeat' (first | (with_reducible exact Keeps.refl _) | (with_reducible assumption) | (with_reducible refine Keeps.drewN ?_ _) | (with_reducible refine Keeps.drew ?_) | (with_reducible refine Keeps.alloc ?_ _) | (with_reducible refine Keeps.setCell ?_ ?_ _) | (with_reducible refine Keeps.trans ?_ (After.keeps _)) | (with_reducible refine Keeps.trans ?_ (by with_reducible assumption)) | go_size)); (first | done | fail)))).keeps hk5; have HW := (HW.keeps (by ((repeat' (first | (with_reducible exact Keeps.refl _) | (with_reducible assumption) | (with_reducible refine Keeps.drewN ?_ _) | (with_reducible refine Keeps.drew ?_) | (with_reducible refine Keeps.alloc ?_ _) | (with_reducible refine Keeps.setCell ?_ ?_ _) | (with_reducible refine Keeps.trans ?_ (After.keeps _)) | (with_reducible refine Keeps.trans ?_ (by with_reducible assumption)) | go_size)); (first | done | fail)))).keeps hk5; have HL := (HL.keeps (by ((repeat' (first | (with_reducible exact Keeps.refl _) | (with_reducible assumption) | (with_reducible refine Keeps.drewN ?_ _) | (with_reducible refine Keeps.drew ?_) | (with_reducible refine Keeps.alloc ?_ _) | (with_reducible refine Keeps.setCell ?_ ?_ _) | (with_reducible refine Keeps.trans ?_ (After.keeps _)) | (with_reducible refine Keeps.trans ?_ (by with_reducible assumption)) | go_size)); (first | done | fail)))).keeps hk5; have HP := (HP.keeps (by ((repeat' (first | (with_reducible exact Keeps.refl _) | (with_reducible assumption) | (with_reducible refine Keeps.drewN ?_ _) | (with_reducible refine Keeps.drew ?_) | (with_reducible refine Keeps.alloc ?_ _) | (with_reducible refine Keeps.setCell ?_ ?_ _) | (with_reducible refine Keeps.trans ?_ (After.keeps _)) | (with_reducible refine Keeps.trans ?_ (by with_reducible assumption)) | go_size)); (first | done | fail)))).keeps hk5; have HKp := (HKp.drew).trans hk5)
      | (go_at_call 81; refine (rmload (M.keeps (by ((repeat' (first | (with_reducible exact Keeps.refl _) | (with_reducible assumption) | (with_reducible refine Keeps.drewN ?_ _) | (with_reducible refine Keeps.drew ?_) | (with_reducible refine Keeps.alloc ?_ _) | (with_reducible refine Keeps.setCell ?_ ?_ _) | (with_reducible refine Keeps.trans ?_ (After.keeps _)) | (with_reducible refine Keeps.trans ?_ (by with_reducible assumption)) | go_size)); (first | done | fail)))) q HO.out hcc2).mono ?_; rintro e w' ⟨rfl, hu2, M2⟩; have HT := HT.upd hu2 (by simp only [List.mem_cons, List.not_mem_nil, or_false, not_or]; (repeat' apply And.intro) <;> assumption); have HW := HW.upd hu2 (by simp only [List.mem_cons, List.not_mem_nil, or_false, not_or]; (repeat' apply And.intro) <;> assumption); have HL := HL.upd hu2 (by simp only [List.mem_cons, List.not_mem_nil, or_false, not_or]; (repeat' apply And.intro) <;> assumption); have HP := HP.upd hu2 (by simp only [List.mem_cons, List.not_mem_nil, or_false, not_or]; (repeat' apply And.intro) <;> assumption); have FX_ := (HT).facts; simp only [blockFacts, listFacts, cellsAt, Nat.reduceAdd, and_true, true_and, and_assoc, pto] at FX_; have FX_ := (HW).facts; simp only [blockFacts, listFacts, cellsAt, Nat.reduceAdd, and_true, true_and, and_assoc, rwOf, pto] at FX_)
      | (go_at_call 80; refine (rbelow_c _ HP o0 o1 hk9).mono ?_; rintro e w' ⟨rfl, rfl⟩; rw [HTt.out]))
  have hd0 : decide (t < 0) = false := decide_eq_false (by omega)
  have hd1 : ((k : Int) + 1 == (K : Int)) = false := by rw [beq_eq_false_iff_ne]; omega
  have hd2 : decide ((k : Int) + 1 = (K : Int)) = false := decide_eq_false (by omega)
  go_wp2
  go_quiet (fail)
  generalize hW9 : w'.drewN _ = W1
  have hu3 : Upd [] w' W1 := by rw [← hW9]; (repeat (first | (with_reducible exact Upd.refl _ _) | (with_reducible assumption) | (with_reducible refine Upd.setCell ?_ (by first | (left; simp; done) | (right; go_size)) _) | (with_reducible refine Upd.alloc ?_ _) | (with_reducible refine Upd.drewN ?_ _) | (with_reducible refine Upd.drew ?_)))
  have HT := HT.upd hu3 (by simp)
  have hUW : Upd [g, bb] w W1 := ((Upd.of_keeps HKp).trans hu2).trans (hu3.mono (by simp))
  have RW := RR.out.upd hUW (by simp; exact ⟨nlg, nlb⟩)
  have n2 := HH.out.nW
  have HC := HH.out.step hUW n2.1 n2.2 (M2.upd hu3 (by simp) (by simp)) HH.out.ok
  have szW : B ≤ W1.heap.size := Nat.le_trans hB hUW.size
  clear hW9
  have FX_ := (HT).facts; simp only [blockFacts, listFacts, cellsAt, Nat.reduceAdd, and_true, true_and, and_assoc, pto] at FX_
  go_wp2_with (at_builtin; refine wpList_append_ints (B := B) (v := .slice (some ⟨lb, 0, none⟩) (k + 1) cap) (xs := zs) (ys := [t]) rfl _ _ rfl _ rfl rfl (RW.alloc _) (Has.src (Has.newAt (by simp)) _) (by simp; omega) (by simp; omega) ?_; intro v1 w1 R1 U1 O1; rw [ownB_some (r := none)] at U1 O1; have HT := (HT.alloc (.cells #[.int .i64 t] 3)).upd U1 (by simpa using Ne.symm nlT); obtain ⟨a9, c9, hv9, -⟩ := R1.reads; subst hv9; have n1 := R1.ne HT (by decide); have FX_ := (HT).facts; simp only [blockFacts, listFacts, cellsAt, Nat.reduceAdd, and_true, true_and, and_assoc, pto] at FX_)
  go_ret
  have e9 : (zs ++ [t]).length = zs.length + 1 := by simp
  rw [e9] at R1 n1 O1
  have szs := hUW.size
  simp only [List.mem_cons, List.not_mem_nil, or_false, not_or] at n2
  have hU4 : Upd [lb, T] W1 (w1.setCell ⟨T, 1, none⟩ (.slice a9 (zs.length + 1) c9)) := ((((Upd.refl [lb, T] W1).alloc _).trans (U1.mono (by simp))).setCell (.inl (by simp)) _)
  refine ⟨rfl, .slice a9 (zs.length + 1) c9, (hUW.mono (by simp)).trans (hU4.mono (by simp)), by (apply Has.congr; (focus ((repeat (first | (with_reducible assumption) | (with_reducible exact Has.new _ _ _) | (with_reducible exact Has.new1 _ _ _ _) | (with_reducible exact Has.new2 _ _ _ _ _) | (with_reducible refine Has.newAt ?_; (simp; done)) | (with_reducible apply Has.set) | (with_reducible apply Has.far; (case hn => first | assumption | (simp; done) | (intro e_; simp at e_; omega))) | (with_reducible apply Has.alloc) | (with_reducible apply Has.drewN) | (with_reducible apply Has.drew) | (with_reducible refine Has.keeps ?_ (by with_reducible assumption)))))); (first | rfl | (simp; done))), HC.upd hU4 (by simp; exact ⟨Ne.symm nlW, Ne.symm nTW⟩) (by simp; exact ⟨Ne.symm nlP, Ne.symm nTP⟩) (by simp; exact ⟨Ne.symm nlg, Ne.symm nTg⟩) (by simp; exact ⟨Ne.symm nlb, Ne.symm nTb⟩), R1.far n1 _, fun y hy => ?_⟩
  rcases O1 y hy with h1 | h1
  · left; simpa using h1
  · right; simp at h1; omega
theorem rwalk_end {t : Int} (hT : Has w T (rwalkOf W v false) 77) (h : RChAt w W g bb N P lk K p d s c b l cc) (R : Row B 3 w v (ivals zs)) (hz : zs.length = k + 1) (hzb : 0 ≤ zs.getD k 0 ∧ zs.getD k 0 < K) (ht : belowI K (l.getD ((lk : Int) + zs.getD k 0).toNat 0) = t) (hkK : t < 0 ∨ k + 1 = K) (hk8 : k ≤ 100000) (hcc : cc < 1000000000) :
    Calls Try.prog 36 #[.pointer (some ⟨T, 0, none⟩)] w fun e w' => e = .returned (.bool true) ∧ Upd [g, bb, T] w w' ∧ Has w' T (rwalkOf W v true) 77 ∧ RChAt w' W g bb N P lk K p d s c b l (cc + 1) ∧ Row B 3 w' v (ivals zs) := by
  obtain ⟨Sp, E, hW⟩ := h.hW
  have M := h.M
  have hP := h.hP
  have k4 := (mayB_true.1 h.may).2.1.2
  have hl := h.hlk
  have hlk1 := h.ok.lk1
  have hlen := h.ok.len
  obtain ⟨q, hq⟩ : ∃ q : Nat, ((lk : Int) + zs.getD k 0).toNat = q := ⟨_, rfl⟩
  rw [hq] at ht
  have ho : l[q]? = some (l.getD q 0) := getD_some (by omega)
  obtain ⟨o0, o1⟩ := h.ok.words _ (List.mem_of_getElem? ho)
  obtain ⟨tb0, tb1⟩ := belowI_bd K _ o0
  rw [ht] at tb0 tb1
  have hzn : zs ≠ [] := List.length_pos_iff.1 (by omega)
  obtain ⟨lb, cap, cur, hv, hL, hcur⟩ := R.formI hzn
  rw [hz] at hv
  subst hv
  have e1 := hcur k (by omega)
  have nTg : T ≠ g := hT.ne M.hg (by decide)
  have nTb : T ≠ bb := hT.ne M.hb (by decide)
  have nTW : T ≠ W := hT.ne hW (by decide)
  have nTP : T ≠ P := hT.ne hP (by decide)
  have nWg : W ≠ g := hW.ne M.hg (by decide)
  have nWb : W ≠ bb := hW.ne M.hb (by decide)
  have nPg : P ≠ g := hP.ne M.hg (by decide)
  have nPb : P ≠ bb := hP.ne M.hb (by decide)
  have nlT : lb ≠ T := hL.ne hT (by decide)
  have nlg : lb ≠ g := hL.ne M.hg (by decide)
  have nlb : lb ≠ bb := hL.ne M.hb (by decide)
  have nlW : lb ≠ W := hL.ne hW (by decide)
  have nlP : lb ≠ P := hL.ne hP (by decide)
  have HQ : Hid (3 + p + s + s + zs.getD k 0 = (q : Int)) := Lib.hid (by omega)
  have HO := Lib.hid ho
  have HM := Lib.hid h.may
  have HH := Lib.hid h
  have HTt := Lib.hid ht
  have RR := Lib.hid R
  have hcc2 : cc < 4611686018427387903 := by omega
  obtain ⟨u0, u1⟩ := hzb
  have pj : (k : Int) + 1 - 1 = k := by omega
  have pw := wrapI_ok ((k : Int) + 1 - 1) (by omega) (by omega)
  have pw5 := wrapI_ok (k : Int) (by omega) (by omega)
  have pi0 : (0 : Int) ≤ (k : Int) := by omega
  have pi1 : (k : Int) < (k : Int) + 1 := by omega
  have hk9 : K ≤ 9000000 := by omega
  have hzl : zs.length ≤ 100001 := by omega
  generalize zs.getD k 0 = a1 at *
  generalize l.getD q 0 = o at *
  clear ho hq ht R hz h hl
  have HT := hT
  have HW := hW
  have HP := hP
  have HL := hL
  have FX_ := (hT).facts; simp only [blockFacts, listFacts, cellsAt, Nat.reduceAdd, and_true, true_and, and_assoc, pto] at FX_
  have FX_ := (hW).facts; simp only [blockFacts, listFacts, cellsAt, Nat.reduceAdd, and_true, true_and, and_assoc, rwOf, pto] at FX_
  have HKp := Keeps.refl w
  go_enter Try.func36, Try.ntmps36
  go_wp2
  go_region_held3 (fun y => (((((((((y.cell? ⟨T, 0, none⟩ = some (.pointer (some ⟨W, 0, none⟩)) ∧ y.cell? ⟨W, 6, none⟩ = some (.pointer (some ⟨g, 0, none⟩))) ∧ y.cell? ⟨W, 0, none⟩ = some (.int .i64 p)) ∧ y.cell? ⟨W, 1, none⟩ = some (.int .i64 K)) ∧ y.cell? ⟨W, 2, none⟩ = some (.int .i64 d)) ∧ y.cell? ⟨W, 3, none⟩ = some (.int .i64 s)) ∧ y.cell? ⟨W, 4, none⟩ = some (.int .i64 c)) ∧ y.cell? ⟨W, 5, none⟩ = some (.int .i64 b)) ∧ y.cell? ⟨W, 7, none⟩ = some (.pointer (some ⟨P, 0, none⟩))) ∧ y.cell? ⟨T, 1, none⟩ = some (.slice (some ⟨lb, 0, none⟩) (k + 1) cap)) ∧ y.cell? ⟨lb, k, none⟩ = some (.int .i64 a1)) (((repeat' (with_reducible apply And.intro)) <;> (apply Has.cellv; (focus ((repeat (first | (with_reducible assumption) | (with_reducible exact Has.new _ _ _) | (with_reducible exact Has.new1 _ _ _ _) | (with_reducible exact Has.new2 _ _ _ _ _) | (with_reducible refine Has.newAt ?_; (simp; done)) | (with_reducible apply Has.set) | (with_reducible apply Has.far; (case hn => first | assumption | (simp; done) | (intro e_; simp at e_; omega))) | (with_reducible apply Has.alloc) | (with_reducible apply Has.drewN) | (with_reducible apply Has.drew) | (with_reducible refine Has.keeps ?_ (by with_reducible assumption)))))); (first | (with_reducible assumption) | rfl | (simp; done) | fail))))
    (first
      | (go_at_call 33; refine (rlink_in _ _ _ _ _ _ _ _ HM.out u0 u1).mono ?_; rintro e w' ⟨rfl, hk5⟩; rw [HQ.out]; have HT := (HT.keeps (by ((repeat' (first | (with_reducible exact Keeps.refl _) | (with_reducible assumption) | (with_reducible refine Keeps.drewN ?_ _) | (with_reducible refine Keeps.drew ?_) | (with_reducible refine Keeps.alloc ?_ _) | (with_reducible refine Keeps.setCell ?_ ?_ _) | (with_reducible refine Keeps.trans ?_ (After.keeps _)) | (with_reducible refine Keeps.trans ?_ (by with_reducible assumption)) | go_size)); (first | done | fail)))).keeps hk5; have HW := (HW.keeps (by ((repeat' (first | (with_reducible exact Keeps.refl _) | (with_reducible assumption) | (with_reducible refine Keeps.drewN ?_ _) | (with_reducible refine Keeps.drew ?_) | (with_reducible refine Keeps.alloc ?_ _) | (with_reducible refine Keeps.setCell ?_ ?_ _) | (with_reducible refine Keeps.trans ?_ (After.keeps _)) | (with_reducible refine Keeps.trans ?_ (by with_reducible assumption)) | go_size)); (first | done | fail)))).keeps hk5; have HL := (HL.keeps (by ((repeat' (first | (with_reducible exact Keeps.refl _) | (with_reducible assumption) | (with_reducible refine Keeps.drewN ?_ _) | (with_reducible refine Keeps.drew ?_) | (with_reducible refine Keeps.alloc ?_ _) | (with_reducible refine Keeps.setCell ?_ ?_ _) | (with_reducible refine Keeps.trans ?_ (After.keeps _)) | (with_reducible refine Keeps.trans ?_ (by with_reducible assumption)) | go_size)); (first | done | fail)))).keeps hk5; have HP := (HP.keeps (by ((repeat' (first | (with_reducible exact Keeps.refl _) | (with_reducible assumption) | (with_reducible refine Keeps.drewN ?_ _) | (with_reducible refine Keeps.drew ?_) | (with_reducible refine Keeps.alloc ?_ _) | (with_reducible refine Keeps.setCell ?_ ?_ _) | (with_reducible refine Keeps.trans ?_ (After.keeps _)) | (with_reducible refine Keeps.trans ?_ (by with_reducible assumption)) | go_size)); (first | done | fail)))).keeps hk5; have HKp := (HKp.drew).trans hk5)
      | (go_at_call 81; refine (rmload (M.keeps (by ((repeat' (first | (with_reducible exact Keeps.refl _) | (with_reducible assumption) | (with_reducible refine Keeps.drewN ?_ _) | (with_reducible refine Keeps.drew ?_) | (with_reducible refine Keeps.alloc ?_ _) | (with_reducible refine Keeps.setCell ?_ ?_ _) | (with_reducible refine Keeps.trans ?_ (After.keeps _)) | (with_reducible refine Keeps.trans ?_ (by with_reducible assumption)) | go_size)); (first | done | fail)))) q HO.out hcc2).mono ?_; rintro e w' ⟨rfl, hu2, M2⟩; have HT := HT.upd hu2 (by simp only [List.mem_cons, List.not_mem_nil, or_false, not_or]; (repeat' apply And.intro) <;> assumption); have HW := HW.upd hu2 (by simp only [List.mem_cons, List.not_mem_nil, or_false, not_or]; (repeat' apply And.intro) <;> assumption); have HL := HL.upd hu2 (by simp only [List.mem_cons, List.not_mem_nil, or_false, not_or]; (repeat' apply And.intro) <;> assumption); have HP := HP.upd hu2 (by simp only [List.mem_cons, List.not_mem_nil, or_false, not_or]; (repeat' apply And.intro) <;> assumption); have FX_ := (HT).facts; simp only [blockFacts, listFacts, cellsAt, Nat.reduceAdd, and_true, true_and, and_assoc, pto] at FX_; have FX_ := (HW).facts; simp only [blockFacts, listFacts, cellsAt, Nat.reduceAdd, and_true, true_and, and_assoc, rwOf, pto] at FX_)
      | (go_at_call 80; refine (rbelow_c _ HP o0 o1 hk9).mono ?_; rintro e w' ⟨rfl, rfl⟩; rw [HTt.out]))
  have n2 := HH.out.nW
  have hU1 : Upd [g, bb] w w' := (Upd.of_keeps HKp).trans hu2
  have fin : ∀ W1, Upd [] w' W1 → Upd [g, bb, T] w (W1.setCell ⟨T, 2, none⟩ (.bool true)) ∧ Has (W1.setCell ⟨T, 2, none⟩ (.bool true)) T (rwalkOf W (.slice (some ⟨lb, 0, none⟩) (k + 1) cap) true) 77 ∧ RChAt (W1.setCell ⟨T, 2, none⟩ (.bool true)) W g bb N P lk K p d s c b l (cc + 1) ∧ Row B 3 (W1.setCell ⟨T, 2, none⟩ (.bool true)) (.slice (some ⟨lb, 0, none⟩) (k + 1) cap) (ivals zs) := by
    intro W1 hu3
    have hUW : Upd [g, bb] w W1 := hU1.trans (hu3.mono (by simp))
    have HT := HT.upd hu3 (by simp)
    have HC := HH.out.step hUW n2.1 n2.2 (M2.upd hu3 (by simp) (by simp)) HH.out.ok
    have hU4 : Upd [T] W1 (W1.setCell ⟨T, 2, none⟩ (.bool true)) := (Upd.refl _ _).setCell (.inl (by simp)) _
    have hUT : Upd [g, bb, T] w (W1.setCell ⟨T, 2, none⟩ (.bool true)) := (hUW.mono (by simp)).trans (hU4.mono (by simp))
    exact ⟨hUT, by (apply Has.congr; (focus ((repeat (first | (with_reducible assumption) | (with_reducible exact Has.new _ _ _) | (with_reducible exact Has.new1 _ _ _ _) | (with_reducible exact Has.new2 _ _ _ _ _) | (with_reducible refine Has.newAt ?_; (simp; done)) | (with_reducible apply Has.set) | (with_reducible apply Has.far; (case hn => first | assumption | (simp; done) | (intro e_; simp at e_; omega))) | (with_reducible apply Has.alloc) | (with_reducible apply Has.drewN) | (with_reducible apply Has.drew) | (with_reducible refine Has.keeps ?_ (by with_reducible assumption)))))); (first | rfl | (simp; done))), HC.upd hU4 (by simpa using Ne.symm nTW) (by simpa using Ne.symm nTP) (by simpa using Ne.symm nTg) (by simpa using Ne.symm nTb), RR.out.upd hUT (by simp; exact ⟨nlg, nlb, nlT⟩)⟩
  have FF := Lib.hid fin
  clear fin n2
  by_cases ht0 : t < 0
  · have hd0 : decide (t < 0) = true := decide_eq_true ht0
    clear hkK
    go_wp2
    go_quiet (fail)
    generalize hW9 : w'.drewN _ = W1
    have hu3 : Upd [] w' W1 := by rw [← hW9]; (repeat (first | (with_reducible exact Upd.refl _ _) | (with_reducible assumption) | (with_reducible refine Upd.setCell ?_ (by first | (left; simp; done) | (right; go_size)) _) | (with_reducible refine Upd.alloc ?_ _) | (with_reducible refine Upd.drewN ?_ _) | (with_reducible refine Upd.drew ?_)))
    clear hW9
    have HT := HT.upd hu3 (by simp)
    have FX_ := (HT).facts; simp only [blockFacts, listFacts, cellsAt, Nat.reduceAdd, and_true, true_and, and_assoc, pto] at FX_
    go_wp2
    go_ret
    exact ⟨rfl, FF.out W1 hu3⟩
  · have hd0 : decide (t < 0) = false := decide_eq_false ht0
    obtain rfl : k + 1 = K := by omega
    have hd1 : ((k : Int) + 1 == ((k + 1 : Nat) : Int)) = true := by rw [beq_iff_eq]; omega
    have hd2 : decide ((k : Int) + 1 = ((k + 1 : Nat) : Int)) = true := decide_eq_true (by omega)
    clear hkK
    go_wp2
    go_quiet (fail)
    generalize hW9 : w'.drewN _ = W1
    have hu3 : Upd [] w' W1 := by rw [← hW9]; (repeat (first | (with_reducible exact Upd.refl _ _) | (with_reducible assumption) | (with_reducible refine Upd.setCell ?_ (by first | (left; simp; done) | (right; go_size)) _) | (with_reducible refine Upd.alloc ?_ _) | (with_reducible refine Upd.drewN ?_ _) | (with_reducible refine Upd.drew ?_)))
    clear hW9
    have HT := HT.upd hu3 (by simp)
    have FX_ := (HT).facts; simp only [blockFacts, listFacts, cellsAt, Nat.reduceAdd, and_true, true_and, and_assoc, pto] at FX_
    go_wp2
    go_ret
    exact ⟨rfl, FF.out W1 hu3⟩
end
section
variable {w : World} {W g bb N P lk K : Nat} {l : List Int} {cc : Int} {p d s c b : Int}
theorem rbehind_c (first : Int) (h : RChAt w W g bb N P lk K p d s c b l cc) (f0 : -1 ≤ first) (f1 : first < K) :
    Calls Try.prog 34 #[.pointer (some ⟨W, 0, none⟩), .int .i64 first] w fun e w' => ∃ v', e = .returned v' ∧ Keeps w w' ∧ Row w.heap.size 3 w' v' (ivals (listFrom lk K l K first)) := by
  obtain ⟨Sp, E, hX⟩ := h.hW
  have M := h.M
  have hP := h.hP
  have L := h.ok
  have hm := h.may
  have hlk := h.hlk
  have hl1 := L.lk1
  have hl2 := L.len
  have hl3 := L.small
  have hl4 := L.n1
  have HM := Lib.hid hm
  have HLK := Lib.hid hlk
  obtain ⟨r, hr⟩ : ∃ r, listFrom lk K l K first = r := ⟨_, rfl⟩
  have HRes := Lib.hid hr
  rw [hr]
  clear hr hm hlk h
  have HX := hX
  have MW := M
  have HP := hP
  go_enter Try.func34, Try.ntmps34
  go_wp2
  go_loopw [5, 6] (fun out i wr => ∃ (k : Nat) (ys : List Int) (cur : Int), k ≤ K ∧ ys.length = k ∧ i = .int .i64 cur ∧ -1 ≤ cur ∧ cur < K ∧ Hid (ys ++ listFrom lk K l (K - k) cur = r) ∧ Row w.heap.size 3 wr out (ivals ys) ∧ Has wr W (rwOf p K d s c b g (pto P) Sp E) 73 ∧ Has wr P (rstackOf g (0 : Nat) lk K) 98 ∧ RMem wr g bb N l cc ∧ Keeps w wr) (fun out _ _ => K - lenOf out)
  case atStart => exact ⟨0, [], first, by omega, rfl, rfl, by omega, f1, Lib.hid (by simpa using HRes.out), Row.nil _ _ _, HX, HP, MW, Keeps.refl _⟩
  case round =>
    clear MW HX hX M HP hP
    obtain ⟨k, ys, cur, hk, hky, rfl, q0, q1, hrel, R, HX, HP, MW, K0⟩ := hrel
    obtain ⟨ad, cap, hv, _⟩ := R.reads
    rw [hky] at hv
    subst hv
    have FX_ := (HX).facts; simp only [blockFacts, listFacts, cellsAt, Nat.reduceAdd, and_true, true_and, and_assoc, rwOf, pto] at FX_
    by_cases hc : 0 ≤ cur
    · by_cases hlt : k < K
      · obtain ⟨q, hqn⟩ : ∃ q : Nat, ((lk : Int) + cur).toNat = q := ⟨_, rfl⟩
        have hql : 3 + p + s + s + cur = (q : Int) := by have := HLK.out; omega
        have HQ := Lib.hid hql
        have HOl : Hid (l[q]? = some (l.getD q 0)) := Lib.hid (getD_some (by omega))
        have e0 : (u64s l)[q]? = some (.int .u64 (l.getD q 0)) := u64s_at HOl.out
        have hqN : (q : Int) < N := by omega
        have hq0 : (0 : Int) ≤ (q : Int) := by omega
        have hlb := L.words _ (List.mem_of_getElem? HOl.out)
        have hbl := belowI_bd K _ hlb.1
        have hstep : listFrom lk K l (K - k) cur = cur :: listFrom lk K l (K - (k + 1)) (belowI K (l.getD q 0)) := by
          rw [show K - k = (K - (k + 1)) + 1 by omega, ← hqn]
          show (if cur < 0 then [] else _) = _
          rw [if_neg (by omega)]
        have HST := Lib.hid hstep
        clear hstep hql hqn
        generalize l.getD q 0 = lw at *
        obtain ⟨r0, r1⟩ := hlb
        obtain ⟨u, hu⟩ : ∃ u, belowI K lw = u := ⟨_, rfl⟩
        rw [hu] at hbl HST
        obtain ⟨bb0, bb1⟩ := hbl
        have HU := Lib.hid hu
        clear hu
        have szr := K0.size
        go_wp2_with (at_builtin; refine wpList_append_ints (B := w.heap.size) (xs := ys) (ys := [cur]) rfl _ _ rfl _ rfl rfl (R.alloc _) (Has.src (Has.newAt (by simp)) _) (by simp; omega) (by simp; omega) ?_; intro v1 w1 R1 U1 O1)
        have HP := (HP.alloc (.cells #[.int .i64 cur] 3)).upd U1 (fun hx => R.ne HP (by decide) _ hx rfl)
        have HX := (HX.alloc (.cells #[.int .i64 cur] 3)).upd U1 (fun hx => R.ne HX (by decide) _ hx rfl)
        have MW := (MW.alloc (.cells #[.int .i64 cur] 3)).upd U1 (fun hx => R.ne MW.hg (by decide) _ hx rfl) (fun hx => R.ne MW.hb (by decide) _ hx rfl)
        have K1 := (K0.alloc (.cells #[.int .i64 cur] 3)).upd U1 (fun y hy => (R.own y hy).1)
        have RR := Lib.hid R1
        have KA := Keeps.refl w1
        have HMg := MW.hg
        have HMb := MW.hb
        clear HOl
        go_region_held3 (fun y => ((((((((y.cell? ⟨W, 7, none⟩ = some (.pointer (some ⟨P, 0, none⟩)) ∧ y.cell? ⟨W, 6, none⟩ = some (.pointer (some ⟨g, 0, none⟩))) ∧ y.cell? ⟨g, 0, none⟩ = some (.slice (some ⟨bb, 0, none⟩) N N)) ∧ y.cell? ⟨W, 0, none⟩ = some (.int .i64 p)) ∧ y.cell? ⟨W, 1, none⟩ = some (.int .i64 K)) ∧ y.cell? ⟨W, 2, none⟩ = some (.int .i64 d)) ∧ y.cell? ⟨W, 3, none⟩ = some (.int .i64 s)) ∧ y.cell? ⟨W, 4, none⟩ = some (.int .i64 c)) ∧ y.cell? ⟨W, 5, none⟩ = some (.int .i64 b)) ∧ y.cell? ⟨bb, q, none⟩ = some (.int .u64 lw)) (((repeat' (with_reducible apply And.intro)) <;> (apply Has.cellv; (focus ((repeat (first | (with_reducible assumption) | (with_reducible exact Has.new _ _ _) | (with_reducible exact Has.new1 _ _ _ _) | (with_reducible exact Has.new2 _ _ _ _ _) | (with_reducible refine Has.newAt ?_; (simp; done)) | (with_reducible apply Has.set) | (with_reducible apply Has.far; (case hn => first | assumption | (simp; done) | (intro e_; simp at e_; omega))) | (with_reducible apply Has.alloc) | (with_reducible apply Has.drewN) | (with_reducible apply Has.drew) | (with_reducible refine Has.keeps ?_ (by with_reducible assumption)))))); (first | (with_reducible assumption) | rfl | (simp; done) | fail))))
          (first
            | (go_at_call 33; refine (rlink_in _ _ _ _ _ _ _ _ HM.out hc q1).mono ?_; rintro e w' ⟨rfl, hk5⟩; rw [HQ.out]; have KA := (KA.drew).trans hk5; have HX := (HX.keeps (by ((repeat' (first | (with_reducible exact Keeps.refl _) | (with_reducible assumption) | (with_reducible refine Keeps.drewN ?_ _) | (with_reducible refine Keeps.drew ?_) | (with_reducible refine Keeps.alloc ?_ _) | (with_reducible refine Keeps.setCell ?_ ?_ _) | (with_reducible refine Keeps.trans ?_ (After.keeps _)) | (with_reducible refine Keeps.trans ?_ (by with_reducible assumption)) | go_size)); (first | done | fail)))).keeps hk5; have HP := (HP.keeps (by ((repeat' (first | (with_reducible exact Keeps.refl _) | (with_reducible assumption) | (with_reducible refine Keeps.drewN ?_ _) | (with_reducible refine Keeps.drew ?_) | (with_reducible refine Keeps.alloc ?_ _) | (with_reducible refine Keeps.setCell ?_ ?_ _) | (with_reducible refine Keeps.trans ?_ (After.keeps _)) | (with_reducible refine Keeps.trans ?_ (by with_reducible assumption)) | go_size)); (first | done | fail)))).keeps hk5; have HMg := (HMg.keeps (by ((repeat' (first | (with_reducible exact Keeps.refl _) | (with_reducible assumption) | (with_reducible refine Keeps.drewN ?_ _) | (with_reducible refine Keeps.drew ?_) | (with_reducible refine Keeps.alloc ?_ _) | (with_reducible refine Keeps.setCell ?_ ?_ _) | (with_reducible refine Keeps.trans ?_ (After.keeps _)) | (with_reducible refine Keeps.trans ?_ (by with_reducible assumption)) | go_size)); (first | done | fail)))).keeps hk5; have HMb := (HMb.keeps (by ((repeat' (first | (with_reducible exact Keeps.refl _) | (with_reducible assumption) | (with_reducible refine Keeps.drewN ?_ _) | (with_reducible refine Keeps.drew ?_) | (with_reducible refine Keeps.alloc ?_ _) | (with_reducible refine Keeps.setCell ?_ ?_ _) | (with_reducible refine Keeps.trans ?_ (After.keeps _)) | (with_reducible refine Keeps.trans ?_ (by with_reducible assumption)) | go_size)); (first | done | fail)))).keeps hk5)
            | (go_at_call 80; refine (rbelow_c _ HP r0 r1 (by omega)).mono ?_; rintro e w' ⟨rfl, rfl⟩; rw [HU.out]))
        go_wp2
        go_roundw
        case rel =>
          refine ⟨k + 1, ys ++ [cur], u, by omega, by simp [hky], rfl, bb0, bb1, Lib.hid ?_, RR.out.keeps KA, HX, HP, MW.keeps KA, K1.trans KA⟩
          rw [List.append_assoc]; rw [← hrel.out, HST.out]; rfl
        case measure =>
          have hlv : lenOf v1 = k + 1 := by
            obtain ⟨a9, c9, hv9, _⟩ := RR.out.reads
            rw [hv9]; simp [lenOf, hky]
          rw [hlv]; simp [lenOf]; omega
      · obtain rfl : k = K := by omega
        have hres : ys = r := by have h := hrel.out; rw [Nat.sub_self] at h; simpa [listFrom] using h
        go_wp2
        go_ret
        exact ⟨_, rfl, K0, by rw [← hres]; exact R⟩
    · have hres : ys = r := by
        have h := hrel.out
        rw [show listFrom lk K l (K - k) cur = [] by cases (K - k) with | zero => rfl | succ f => show (if cur < 0 then [] else _) = _; rw [if_pos (by omega)]] at h
        simpa using h
      go_wp2
      go_ret
      exact ⟨_, rfl, K0, by rw [← hres]; exact R⟩
end
end Go.Proofs.Ytcohhfndaogikaa
