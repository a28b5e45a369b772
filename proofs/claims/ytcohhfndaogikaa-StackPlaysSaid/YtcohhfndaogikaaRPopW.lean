/- The document's Pop, walked (under way: the exchange alone). -/
import Derived.Test.YtcohhfndaogikaaRPushW
namespace Go.Proofs.Ytcohhfndaogikaa
set_option linter.unusedVariables false
set_option linter.unusedSimpArgs false
open Go Go.RowKit
set_option maxRecDepth 100000
attribute [local go_sem ↓] Go.wp_at_zero Go.wp_at_succ
set_option maxHeartbeats 1000000

abbrev rpopOf (S : Nat) (mo a de o : Int) (v : Value) (dn : Bool) : Array Value := #[.pointer (some ⟨S, 0, none⟩), .int .i64 mo, .int .i64 a, .int .i64 de, .int .u64 o, v, .bool dn]
section
variable {w : World} {S g b N hd lk n T : Nat} {l : List Int} {cc o mo de : Int}
theorem rpop_cas {v : Value} (hT : Has w T (rpopOf S mo 2 de o v false) 152) (hS : Has w S (rstackOf g hd lk n) 98) (M : RMem w g b N l cc) (L : StOk hd lk n N l) (hcc : cc < 4611686018427387903) (o0 : 0 ≤ o) (o1 : o < 18446744073709551616) :
    Calls Try.prog 96 #[.pointer (some ⟨T, 0, none⟩)] w fun e w' => e = .returned (.bool true) ∧ Upd [T, g, b] w w' ∧ Has w' T (rpopOf S mo 0 de o v (decide (l.getD hd 0 = o))) 152 ∧ RMem w' g b N (if l.getD hd 0 = o then l.set hd (nextI o de) else l) (cc + 1) := by
  have hl2 := L.len
  have hl5 := L.hd1
  have nTg : T ≠ g := hT.ne M.hg (by decide)
  have nTb : T ≠ b := hT.ne M.hb (by decide)
  have nTS : T ≠ S := hT.ne hS (by decide)
  have nST := Ne.symm nTS
  have nSg : S ≠ g := hS.ne M.hg (by decide)
  have nSb : S ≠ b := hS.ne M.hb (by decide)
  have HO : Hid (l[hd]? = some (l.getD hd 0)) := Lib.hid (getD_some (by omega))
  by_cases he : l.getD hd 0 = o
  · rw [if_pos he, decide_eq_true he]
    rw [he] at HO
    clear he
    have HT := hT
    have HS := hS
    have KA := Keeps.refl w
    have FX_ := (hT).facts; simp only [blockFacts, listFacts, cellsAt, Nat.reduceAdd, and_true, true_and, and_assoc] at FX_
    have FX_ := (hS).facts; simp only [blockFacts, listFacts, cellsAt, Nat.reduceAdd, and_true, true_and, and_assoc, rstackOf] at FX_
    go_enter Try.func96, Try.ntmps96
    go_wp2
    have hu0 := Upd.refl [] w
    have HT := HT.upd hu0 (by simp)
    have HS := HS.upd hu0 (by simp)
    have M := M.upd hu0 (by simp) (by simp)
    have hu3 := Upd.refl [g, b] w
    go_region_held3 (fun y => ((y.cell? ⟨S, 0, none⟩ = some (.pointer (some ⟨g, 0, none⟩)) ∧ y.cell? ⟨S, 1, none⟩ = some (.int .i64 hd)) ∧ y.cell? ⟨T, 4, none⟩ = some (.int .u64 o)) ∧ y.cell? ⟨T, 3, none⟩ = some (.int .i64 de)) (((repeat' (with_reducible apply And.intro)) <;> (apply Has.cellv; (focus ((repeat (first | (with_reducible assumption) | (with_reducible exact Has.new _ _ _) | (with_reducible exact Has.new1 _ _ _ _) | (with_reducible exact Has.new2 _ _ _ _ _) | (with_reducible refine Has.newAt ?_; (simp; done)) | (with_reducible apply Has.set) | (with_reducible apply Has.far; (case hn => first | assumption | (simp; done) | (intro e_; simp at e_; omega))) | (with_reducible apply Has.alloc) | (with_reducible apply Has.drewN) | (with_reducible apply Has.drew) | (with_reducible refine Has.keeps ?_ (by with_reducible assumption)))))); (first | (with_reducible assumption) | rfl | (simp; done) | fail))))
      (first
        | (go_at_call 112; refine (rnextW_c _ _ _ o0 o1).mono ?_; rintro e w' ⟨rfl, hk5⟩; have HT := (HT.keeps (by ((repeat' (first | (with_reducible exact Keeps.refl _) | (with_reducible assumption) | (with_reducible refine Keeps.drewN ?_ _) | (with_reducible refine Keeps.drew ?_) | (with_reducible refine Keeps.alloc ?_ _) | (with_reducible refine Keeps.setCell ?_ ?_ _) | (with_reducible refine Keeps.trans ?_ (After.keeps _)) | (with_reducible refine Keeps.trans ?_ (by with_reducible assumption)) | go_size)); (first | done | fail)))).keeps hk5; have HS := (HS.keeps (by ((repeat' (first | (with_reducible exact Keeps.refl _) | (with_reducible assumption) | (with_reducible refine Keeps.drewN ?_ _) | (with_reducible refine Keeps.drew ?_) | (with_reducible refine Keeps.alloc ?_ _) | (with_reducible refine Keeps.setCell ?_ ?_ _) | (with_reducible refine Keeps.trans ?_ (After.keeps _)) | (with_reducible refine Keeps.trans ?_ (by with_reducible assumption)) | go_size)); (first | done | fail)))).keeps hk5; have M := (M.keeps (by ((repeat' (first | (with_reducible exact Keeps.refl _) | (with_reducible assumption) | (with_reducible refine Keeps.drewN ?_ _) | (with_reducible refine Keeps.drew ?_) | (with_reducible refine Keeps.alloc ?_ _) | (with_reducible refine Keeps.setCell ?_ ?_ _) | (with_reducible refine Keeps.trans ?_ (After.keeps _)) | (with_reducible refine Keeps.trans ?_ (by with_reducible assumption)) | go_size)); (first | done | fail)))).keeps hk5; have hu3 := hu3.trans (Upd.of_keeps ((Keeps.drew (Keeps.refl w)).trans hk5)))
        | (go_at_call 111; refine (rmcas_eq M hd _ HO.out hcc).mono ?_; rintro e w' ⟨rfl, hu2, M⟩; have HT := HT.upd hu2 (by simp only [List.mem_cons, List.not_mem_nil, or_false, not_or]; (repeat' apply And.intro) <;> assumption); have HS := HS.upd hu2 (by simp only [List.mem_cons, List.not_mem_nil, or_false, not_or]; (repeat' apply And.intro) <;> assumption); have hu3 := hu3.trans hu2; have FX_ := (HT).facts; simp only [blockFacts, listFacts, cellsAt, Nat.reduceAdd, and_true, true_and, and_assoc] at FX_))
    go_wp2
    go_ret
    have hUT : Upd [T] w' ((w'.setCell ⟨T, 6, none⟩ (.bool true)).setCell ⟨T, 2, none⟩ (.int .i64 0)) := ((Upd.refl _ _).setCell (.inl (by simp)) _).setCell (.inl (by simp)) _
    exact ⟨rfl, ((hu0.mono (by simp)).trans (hu3.mono (by simp))).trans (hUT.mono (by simp)), by (apply Has.congr; (focus ((repeat (first | (with_reducible assumption) | (with_reducible exact Has.new _ _ _) | (with_reducible exact Has.new1 _ _ _ _) | (with_reducible exact Has.new2 _ _ _ _ _) | (with_reducible refine Has.newAt ?_; (simp; done)) | (with_reducible apply Has.set) | (with_reducible apply Has.far; (case hn => first | assumption | (simp; done) | (intro e_; simp at e_; omega))) | (with_reducible apply Has.alloc) | (with_reducible apply Has.drewN) | (with_reducible apply Has.drew) | (with_reducible refine Has.keeps ?_ (by with_reducible assumption)))))); (first | rfl | (simp; done))), M.upd hUT (by simpa using Ne.symm nTg) (by simpa using Ne.symm nTb)⟩
  · rw [if_neg he, decide_eq_false he]
    have hne : (l.getD hd 0 != o) = true := by simpa using he
    clear he
    generalize l.getD hd 0 = lw at *
    have HT := hT
    have HS := hS
    have KA := Keeps.refl w
    have FX_ := (hT).facts; simp only [blockFacts, listFacts, cellsAt, Nat.reduceAdd, and_true, true_and, and_assoc] at FX_
    have FX_ := (hS).facts; simp only [blockFacts, listFacts, cellsAt, Nat.reduceAdd, and_true, true_and, and_assoc, rstackOf] at FX_
    go_enter Try.func96, Try.ntmps96
    go_wp2
    have hu0 := Upd.refl [] w
    have HT := HT.upd hu0 (by simp)
    have HS := HS.upd hu0 (by simp)
    have M := M.upd hu0 (by simp) (by simp)
    have hu3 := Upd.refl [g, b] w
    go_region_held3 (fun y => ((y.cell? ⟨S, 0, none⟩ = some (.pointer (some ⟨g, 0, none⟩)) ∧ y.cell? ⟨S, 1, none⟩ = some (.int .i64 hd)) ∧ y.cell? ⟨T, 4, none⟩ = some (.int .u64 o)) ∧ y.cell? ⟨T, 3, none⟩ = some (.int .i64 de)) (((repeat' (with_reducible apply And.intro)) <;> (apply Has.cellv; (focus ((repeat (first | (with_reducible assumption) | (with_reducible exact Has.new _ _ _) | (with_reducible exact Has.new1 _ _ _ _) | (with_reducible exact Has.new2 _ _ _ _ _) | (with_reducible refine Has.newAt ?_; (simp; done)) | (with_reducible apply Has.set) | (with_reducible apply Has.far; (case hn => first | assumption | (simp; done) | (intro e_; simp at e_; omega))) | (with_reducible apply Has.alloc) | (with_reducible apply Has.drewN) | (with_reducible apply Has.drew) | (with_reducible refine Has.keeps ?_ (by with_reducible assumption)))))); (first | (with_reducible assumption) | rfl | (simp; done) | fail))))
      (first
        | (go_at_call 112; refine (rnextW_c _ _ _ o0 o1).mono ?_; rintro e w' ⟨rfl, hk5⟩; have HT := (HT.keeps (by ((repeat' (first | (with_reducible exact Keeps.refl _) | (with_reducible assumption) | (with_reducible refine Keeps.drewN ?_ _) | (with_reducible refine Keeps.drew ?_) | (with_reducible refine Keeps.alloc ?_ _) | (with_reducible refine Keeps.setCell ?_ ?_ _) | (with_reducible refine Keeps.trans ?_ (After.keeps _)) | (with_reducible refine Keeps.trans ?_ (by with_reducible assumption)) | go_size)); (first | done | fail)))).keeps hk5; have HS := (HS.keeps (by ((repeat' (first | (with_reducible exact Keeps.refl _) | (with_reducible assumption) | (with_reducible refine Keeps.drewN ?_ _) | (with_reducible refine Keeps.drew ?_) | (with_reducible refine Keeps.alloc ?_ _) | (with_reducible refine Keeps.setCell ?_ ?_ _) | (with_reducible refine Keeps.trans ?_ (After.keeps _)) | (with_reducible refine Keeps.trans ?_ (by with_reducible assumption)) | go_size)); (first | done | fail)))).keeps hk5; have M := (M.keeps (by ((repeat' (first | (with_reducible exact Keeps.refl _) | (with_reducible assumption) | (with_reducible refine Keeps.drewN ?_ _) | (with_reducible refine Keeps.drew ?_) | (with_reducible refine Keeps.alloc ?_ _) | (with_reducible refine Keeps.setCell ?_ ?_ _) | (with_reducible refine Keeps.trans ?_ (After.keeps _)) | (with_reducible refine Keeps.trans ?_ (by with_reducible assumption)) | go_size)); (first | done | fail)))).keeps hk5; have hu3 := hu3.trans (Upd.of_keeps ((Keeps.drew (Keeps.refl w)).trans hk5)))
        | (go_at_call 111; refine (rmcas_ne M hd _ _ HO.out hcc hne).mono ?_; rintro e w' ⟨rfl, hu2, M⟩; have HT := HT.upd hu2 (by simp only [List.mem_cons, List.not_mem_nil, or_false, not_or]; (repeat' apply And.intro) <;> assumption); have HS := HS.upd hu2 (by simp only [List.mem_cons, List.not_mem_nil, or_false, not_or]; (repeat' apply And.intro) <;> assumption); have hu3 := hu3.trans hu2; have FX_ := (HT).facts; simp only [blockFacts, listFacts, cellsAt, Nat.reduceAdd, and_true, true_and, and_assoc] at FX_))
    go_wp2
    go_ret
    have hUT : Upd [T] w' ((w'.setCell ⟨T, 6, none⟩ (.bool false)).setCell ⟨T, 2, none⟩ (.int .i64 0)) := ((Upd.refl _ _).setCell (.inl (by simp)) _).setCell (.inl (by simp)) _
    exact ⟨rfl, ((hu0.mono (by simp)).trans (hu3.mono (by simp))).trans (hUT.mono (by simp)), by (apply Has.congr; (focus ((repeat (first | (with_reducible assumption) | (with_reducible exact Has.new _ _ _) | (with_reducible exact Has.new1 _ _ _ _) | (with_reducible exact Has.new2 _ _ _ _ _) | (with_reducible refine Has.newAt ?_; (simp; done)) | (with_reducible apply Has.set) | (with_reducible apply Has.far; (case hn => first | assumption | (simp; done) | (intro e_; simp at e_; omega))) | (with_reducible apply Has.alloc) | (with_reducible apply Has.drewN) | (with_reducible apply Has.drew) | (with_reducible refine Has.keeps ?_ (by with_reducible assumption)))))); (first | rfl | (simp; done))), M.upd hUT (by simpa using Ne.symm nTg) (by simpa using Ne.symm nTb)⟩
theorem rpop_done {v : Value} {a : Int} (hT : Has w T (rpopOf S mo a de o v true) 152) :
    Calls Try.prog 96 #[.pointer (some ⟨T, 0, none⟩)] w fun e w' => e = .returned (.bool false) ∧ w = w' := by
  have FX_ := (hT).facts; simp only [blockFacts, listFacts, cellsAt, Nat.reduceAdd, and_true, true_and, and_assoc] at FX_
  go_enter Try.func96, Try.ntmps96
  go_wp2
  go_ret
  exact ⟨rfl, rfl⟩
/-- The Load of the head of an empty stack. -/
theorem rpop_none {v : Value} (hT : Has w T (rpopOf S mo 0 de o v false) 152) (hS : Has w S (rstackOf g hd lk n) 98) (M : RMem w g b N l cc) (L : StOk hd lk n N l) (hcc : cc < 4611686018427387903) (ht : topI n (l.getD hd 0) < 0) :
    Calls Try.prog 96 #[.pointer (some ⟨T, 0, none⟩)] w fun e w' => e = .returned (.bool true) ∧ Upd [T, g, b] w w' ∧ Has w' T (rpopOf S mo 0 de (l.getD hd 0) (.slice none 0 0) true) 152 ∧ RMem w' g b N l (cc + 1) := by
  have hl2 := L.len
  have hl5 := L.hd1
  have nTg : T ≠ g := hT.ne M.hg (by decide)
  have nTb : T ≠ b := hT.ne M.hb (by decide)
  have nTS : T ≠ S := hT.ne hS (by decide)
  have nST := Ne.symm nTS
  have nSg : S ≠ g := hS.ne M.hg (by decide)
  have nSb : S ≠ b := hS.ne M.hb (by decide)
  have HO : Hid (l[hd]? = some (l.getD hd 0)) := Lib.hid (getD_some (by omega))
  obtain ⟨o0, o1⟩ := L.words _ (List.mem_of_getElem? HO.out)
  generalize l.getD hd 0 = lw at *
  obtain ⟨tp, htp⟩ : ∃ tp, topI n lw = tp := ⟨_, rfl⟩
  rw [htp] at ht
  have HTP := Lib.hid htp
  clear htp
  have HT := hT
  have HS := hS
  have FX_ := (hT).facts; simp only [blockFacts, listFacts, cellsAt, Nat.reduceAdd, and_true, true_and, and_assoc] at FX_
  have FX_ := (hS).facts; simp only [blockFacts, listFacts, cellsAt, Nat.reduceAdd, and_true, true_and, and_assoc, rstackOf] at FX_
  go_enter Try.func96, Try.ntmps96
  go_wp2
  go_region_held3 (fun y => y.cell? ⟨S, 0, none⟩ = some (.pointer (some ⟨g, 0, none⟩)) ∧ y.cell? ⟨S, 1, none⟩ = some (.int .i64 hd)) (((repeat' (with_reducible apply And.intro)) <;> (apply Has.cellv; (focus ((repeat (first | (with_reducible assumption) | (with_reducible exact Has.new _ _ _) | (with_reducible exact Has.new1 _ _ _ _) | (with_reducible exact Has.new2 _ _ _ _ _) | (with_reducible refine Has.newAt ?_; (simp; done)) | (with_reducible apply Has.set) | (with_reducible apply Has.far; (case hn => first | assumption | (simp; done) | (intro e_; simp at e_; omega))) | (with_reducible apply Has.alloc) | (with_reducible apply Has.drewN) | (with_reducible apply Has.drew) | (with_reducible refine Has.keeps ?_ (by with_reducible assumption)))))); (first | (with_reducible assumption) | rfl | (simp; done) | fail))))
    ((go_at_call 81; refine (rmload (M.keeps (by ((repeat' (first | (with_reducible exact Keeps.refl _) | (with_reducible assumption) | (with_reducible refine Keeps.drewN ?_ _) | (with_reducible refine Keeps.drew ?_) | (with_reducible refine Keeps.alloc ?_ _) | (with_reducible refine Keeps.setCell ?_ ?_ _) | (with_reducible refine Keeps.trans ?_ (After.keeps _)) | (with_reducible refine Keeps.trans ?_ (by with_reducible assumption)) | go_size)); (first | done | fail)))) hd HO.out hcc).mono ?_; rintro e w' ⟨rfl, hu2, M2⟩; have HT := (HT.keeps (by ((repeat' (first | (with_reducible exact Keeps.refl _) | (with_reducible assumption) | (with_reducible refine Keeps.drewN ?_ _) | (with_reducible refine Keeps.drew ?_) | (with_reducible refine Keeps.alloc ?_ _) | (with_reducible refine Keeps.setCell ?_ ?_ _) | (with_reducible refine Keeps.trans ?_ (After.keeps _)) | (with_reducible refine Keeps.trans ?_ (by with_reducible assumption)) | go_size)); (first | done | fail)))).upd hu2 (by simp only [List.mem_cons, List.not_mem_nil, or_false, not_or]; (repeat' apply And.intro) <;> assumption); have HS := (HS.keeps (by ((repeat' (first | (with_reducible exact Keeps.refl _) | (with_reducible assumption) | (with_reducible refine Keeps.drewN ?_ _) | (with_reducible refine Keeps.drew ?_) | (with_reducible refine Keeps.alloc ?_ _) | (with_reducible refine Keeps.setCell ?_ ?_ _) | (with_reducible refine Keeps.trans ?_ (After.keeps _)) | (with_reducible refine Keeps.trans ?_ (by with_reducible assumption)) | go_size)); (first | done | fail)))).upd hu2 (by simp only [List.mem_cons, List.not_mem_nil, or_false, not_or]; (repeat' apply And.intro) <;> assumption); have hu3 := (Upd.of_keeps (S := [g, b]) (Keeps.drew (Keeps.refl w))).trans hu2; have FX_ := (HT).facts; simp only [blockFacts, listFacts, cellsAt, Nat.reduceAdd, and_true, true_and, and_assoc] at FX_))
  have hUa : Upd [T] w' ((w'.setCell ⟨T, 4, none⟩ (.int .u64 lw)).setCell ⟨T, 5, none⟩ (.slice none 0 0)) := ((Upd.refl _ _).setCell (.inl (by simp)) _).setCell (.inl (by simp)) _
  have HSb := HS.upd hUa (by simpa using nST)
  have HTb : Has ((w'.setCell ⟨T, 4, none⟩ (.int .u64 lw)).setCell ⟨T, 5, none⟩ (.slice none 0 0)) T (rpopOf S mo 0 de lw (.slice none 0 0) false) 152 := by (apply Has.congr; (focus ((repeat (first | (with_reducible assumption) | (with_reducible exact Has.new _ _ _) | (with_reducible exact Has.new1 _ _ _ _) | (with_reducible exact Has.new2 _ _ _ _ _) | (with_reducible refine Has.newAt ?_; (simp; done)) | (with_reducible apply Has.set) | (with_reducible apply Has.far; (case hn => first | assumption | (simp; done) | (intro e_; simp at e_; omega))) | (with_reducible apply Has.alloc) | (with_reducible apply Has.drewN) | (with_reducible apply Has.drew) | (with_reducible refine Has.keeps ?_ (by with_reducible assumption)))))); (first | rfl | (simp; done)))
  have M3 := M2.upd hUa (by simpa using Ne.symm nTg) (by simpa using Ne.symm nTb)
  have hu4 := (hu3.mono (T := [T, g, b]) (by simp)).trans (hUa.mono (by simp))
  go_wp2_with (go_at_call 84; refine (rtop_c _ HSb o0 o1).mono ?_; rintro e w' ⟨rfl, hk5⟩; rw [HTP.out]; have HTb := HTb.keeps hk5; have M3 := M3.keeps hk5; have hu4 := hu4.trans (Upd.of_keeps hk5); have FX_ := (HTb).facts; simp only [blockFacts, listFacts, cellsAt, Nat.reduceAdd, and_true, true_and, and_assoc] at FX_)
  go_ret
  have hUT : Upd [T] w' (w'.setCell ⟨T, 6, none⟩ (.bool true)) := (Upd.refl _ _).setCell (.inl (by simp)) _
  exact ⟨rfl, hu4.trans (hUT.mono (by simp)), by (apply Has.congr; (focus ((repeat (first | (with_reducible assumption) | (with_reducible exact Has.new _ _ _) | (with_reducible exact Has.new1 _ _ _ _) | (with_reducible exact Has.new2 _ _ _ _ _) | (with_reducible refine Has.newAt ?_; (simp; done)) | (with_reducible apply Has.set) | (with_reducible apply Has.far; (case hn => first | assumption | (simp; done) | (intro e_; simp at e_; omega))) | (with_reducible apply Has.alloc) | (with_reducible apply Has.drewN) | (with_reducible apply Has.drew) | (with_reducible refine Has.keeps ?_ (by with_reducible assumption)))))); (first | rfl | (simp; done))), M3.upd hUT (by simpa using Ne.symm nTg) (by simpa using Ne.symm nTb)⟩
end
end Go.Proofs.Ytcohhfndaogikaa
