/- The document's Pop, walked (under way: the exchange alone). -/
import Derived.Test.YtaecapjicphdkaaGreatMg17
import Derived.Test.YtaecapjicphdkaaGreatMg14
import Derived.LoopTactic
import Derived.Test.YtaecapjicphdkaaGreatMg15
import Derived.Test.YtaecapjicphdkaaGreatMg06
namespace Go.Proofs.YtaecapjicphdkaaGreat
set_option linter.unusedVariables false
set_option linter.unusedSimpArgs false
open Go Go.RowKit
set_option maxRecDepth 100000
attribute [local go_sem ↓] Go.wp_at_zero Go.wp_at_succ
set_option maxHeartbeats 1000000

abbrev rpopOf (S : Nat) (mo a de o : Int) (v : Value) (dn : Bool) : Array Value := #[.pointer (some ⟨S, 0, none⟩), .int .i64 mo, .int .i64 a, .int .i64 de, .int .u64 o, v, .bool dn]
section
variable {w : World} {S g b N hd lk n T : Nat} {l : List Int} {cc o mo de : Int}
theorem rpop_cas {v : Value} (hT : Has w T (rpopOf S mo 2 de o v false) 160) (hS : Has w S (rstackOf g hd lk n) 136) (M : RMem w g b N l cc) (L : StOk hd lk n N l) (hcc : cc < 4611686018427387903) (o0 : 0 ≤ o) (o1 : o < 18446744073709551616) :
    Calls Tryz.prog 97 #[.pointer (some ⟨T, 0, none⟩)] w fun e w' => e = .returned (.bool true) ∧ Upd [T, g, b] w w' ∧ Has w' T (rpopOf S mo 0 de o v (decide (l.getD hd 0 = o))) 160 ∧ RMem w' g b N (if l.getD hd 0 = o then l.set hd (nextI o de) else l) (cc + 1) := by
  have hl2 := L.len
  have hl5 := L.hd1
  have nTg : T ≠ g := hT.ne M.hg (by decide)
  have nTb : T ≠ b := hT.ne M.hb (by decide)
  have nTS : T ≠ S := hT.ne hS (by decide)
  have nST := Ne.symm nTS
  have nSg : S ≠ g := hS.ne M.hg (by decide)
  have nSb : S ≠ b := hS.ne M.hb (by decide)
  have HO : Hid (l[hd]? = some (l.getD hd 0)) := Lib.hid (getD_some (by omega))
  by_cases he : l.getD hd 0 = o
  · rw [if_pos he, decide_eq_true he]
    rw [he] at HO
    clear he
    have HT := hT
    have HS := hS
    have KA := Keeps.refl w
    have FX_ := (hT).facts; simp only [blockFacts, listFacts, cellsAt, Nat.reduceAdd, and_true, true_and, and_assoc] at FX_
    have FX_ := (hS).facts; simp only [blockFacts, listFacts, cellsAt, Nat.reduceAdd, and_true, true_and, and_assoc, rstackOf] at FX_
    go_enter Tryz.func97, Tryz.ntmps97
    go_wp2
    have hu0 := Upd.refl [] w
    have HT := HT.upd hu0 (by simp)
    have HS := HS.upd hu0 (by simp)
    have M := M.upd hu0 (by simp) (by simp)
    have hu3 := Upd.refl [g, b] w
    go_region_held3 (fun y => ((y.cell? ⟨S, 0, none⟩ = some (.pointer (some ⟨g, 0, none⟩)) ∧ y.cell? ⟨S, 1, none⟩ = some (.int .i64 hd)) ∧ y.cell? ⟨T, 4, none⟩ = some (.int .u64 o)) ∧ y.cell? ⟨T, 3, none⟩ = some (.int .i64 de)) (((repeat' (with_reducible apply And.intro)) <;> (apply Has.cellv; (focus ((repeat (first | (with_reducible assumption) | (with_reducible exact Has.new _ _ _) | (with_reducible exact Has.new1 _ _ _ _) | (with_reducible exact Has.new2 _ _ _ _ _) | (with_reducible refine Has.newAt ?_; (simp; done)) | (with_reducible apply Has.set) | (with_reducible apply Has.far; (case hn => first | assumption | (simp; done) | (intro e_; simp at e_; omega))) | (with_reducible apply Has.alloc) | (with_reducible apply Has.drewN) | (with_reducible apply Has.drew) | (with_reducible refine Has.keeps ?_ (by with_reducible assumption)))))); (first | (with_reducible assumption) | rfl | (simp; done) | fail))))
      (first
        | (go_at_call 108; refine (rnextW_c _ _ _ o0 o1).mono ?_; rintro e w' ⟨rfl, hk5⟩; have HT := (HT.keeps (by ((repeat' (first | (with_reducible exact Keeps.refl _) | (with_reducible assumption) | (with_reducible refine Keeps.drewN ?_ _) | (with_reducible refine Keeps.drew ?_) | (with_reducible refine Keeps.alloc ?_ _) | (with_reducible refine Keeps.setCell ?_ ?_ _) | (with_reducible refine Keeps.trans ?_ (After.keeps _)) | (with_reducible refine Keeps.trans ?_ (by with_reducible assumption)) | go_size)); (first | done | fail)))).keeps hk5; have HS := (HS.keeps (by ((repeat' (first | (with_reducible exact Keeps.refl _) | (with_reducible assumption) | (with_reducible refine Keeps.drewN ?_ _) | (with_reducible refine Keeps.drew ?_) | (with_reducible refine Keeps.alloc ?_ _) | (with_reducible refine Keeps.setCell ?_ ?_ _) | (with_reducible refine Keeps.trans ?_ (After.keeps _)) | (with_reducible refine Keeps.trans ?_ (by with_reducible assumption)) | go_size)); (first | done | fail)))).keeps hk5; have M := (M.keeps (by ((repeat' (first | (with_reducible exact Keeps.refl _) | (with_reducible assumption) | (with_reducible refine Keeps.drewN ?_ _) | (with_reducible refine Keeps.drew ?_) | (with_reducible refine Keeps.alloc ?_ _) | (with_reducible refine Keeps.setCell ?_ ?_ _) | (with_reducible refine Keeps.trans ?_ (After.keeps _)) | (with_reducible refine Keeps.trans ?_ (by with_reducible assumption)) | go_size)); (first | done | fail)))).keeps hk5; have hu3 := hu3.trans (Upd.of_keeps ((Keeps.drew (Keeps.refl w)).trans hk5)))
        | (go_at_call 106; refine (rmcas_eq M hd _ HO.out hcc).mono ?_; rintro e w' ⟨rfl, hu2, M⟩; have HT := HT.upd hu2 (by simp only [List.mem_cons, List.not_mem_nil, or_false, not_or]; (repeat' apply And.intro) <;> assumption); have HS := HS.upd hu2 (by simp only [List.mem_cons, List.not_mem_nil, or_false, not_or]; (repeat' apply And.intro) <;> assumption); have hu3 := hu3.trans hu2; have FX_ := (HT).facts; simp only [blockFacts, listFacts, cellsAt, Nat.reduceAdd, and_true, true_and, and_assoc] at FX_))
    go_wp2
    go_ret
    have hUT : Upd [T] w' ((w'.setCell ⟨T, 6, none⟩ (.bool true)).setCell ⟨T, 2, none⟩ (.int .i64 0)) := ((Upd.refl _ _).setCell (.inl (by simp)) _).setCell (.inl (by simp)) _
    exact ⟨rfl, ((hu0.mono (by simp)).trans (hu3.mono (by simp))).trans (hUT.mono (by simp)), by (apply Has.congr; (focus ((repeat (first | (with_reducible assumption) | (with_reducible exact Has.new _ _ _) | (with_reducible exact Has.new1 _ _ _ _) | (with_reducible exact Has.new2 _ _ _ _ _) | (with_reducible refine Has.newAt ?_; (simp; done)) | (with_reducible apply Has.set) | (with_reducible apply Has.far; (case hn => first | assumption | (simp; done) | (intro e_; simp at e_; omega))) | (with_reducible apply Has.alloc) | (with_reducible apply Has.drewN) | (with_reducible apply Has.drew) | (with_reducible refine Has.keeps ?_ (by with_reducible assumption)))))); (first | rfl | (simp; done))), M.upd hUT (by simpa using Ne.symm nTg) (by simpa using Ne.symm nTb)⟩
  · rw [if_neg he, decide_eq_false he]
    have hne : (l.getD hd 0 != o) = true := by simpa using he
    clear he
    generalize l.getD hd 0 = lw at *
    have HT := hT
    have HS := hS
    have KA := Keeps.refl w
    have FX_ := (hT).facts; simp only [blockFacts, listFacts, cellsAt, Nat.reduceAdd, and_true, true_and, and_assoc] at FX_
    have FX_ := (hS).facts; simp only [blockFacts, listFacts, cellsAt, Nat.reduceAdd, and_true, true_and, and_assoc, rstackOf] at FX_
    go_enter Tryz.func97, Tryz.ntmps97
    go_wp2
    have hu0 := Upd.refl [] w
    have HT := HT.upd hu0 (by simp)
    have HS := HS.upd hu0 (by simp)
    have M := M.upd hu0 (by simp) (by simp)
    have hu3 := Upd.refl [g, b] w
    go_region_held3 (fun y => ((y.cell? ⟨S, 0, none⟩ = some (.pointer (some ⟨g, 0, none⟩)) ∧ y.cell? ⟨S, 1, none⟩ = some (.int .i64 hd)) ∧ y.cell? ⟨T, 4, none⟩ = some (.int .u64 o)) ∧ y.cell? ⟨T, 3, none⟩ = some (.int .i64 de)) (((repeat' (with_reducible apply And.intro)) <;> (apply Has.cellv; (focus ((repeat (first | (with_reducible assumption) | (with_reducible exact Has.new _ _ _) | (with_reducible exact Has.new1 _ _ _ _) | (with_reducible exact Has.new2 _ _ _ _ _) | (with_reducible refine Has.newAt ?_; (simp; done)) | (with_reducible apply Has.set) | (with_reducible apply Has.far; (case hn => first | assumption | (simp; done) | (intro e_; simp at e_; omega))) | (with_reducible apply Has.alloc) | (with_reducible apply Has.drewN) | (with_reducible apply Has.drew) | (with_reducible refine Has.keeps ?_ (by with_reducible assumption)))))); (first | (with_reducible assumption) | rfl | (simp; done) | fail))))
      (first
        | (go_at_call 108; refine (rnextW_c _ _ _ o0 o1).mono ?_; rintro e w' ⟨rfl, hk5⟩; have HT := (HT.keeps (by ((repeat' (first | (with_reducible exact Keeps.refl _) | (with_reducible assumption) | (with_reducible refine Keeps.drewN ?_ _) | (with_reducible refine Keeps.drew ?_) | (with_reducible refine Keeps.alloc ?_ _) | (with_reducible refine Keeps.setCell ?_ ?_ _) | (with_reducible refine Keeps.trans ?_ (After.keeps _)) | (with_reducible refine Keeps.trans ?_ (by with_reducible assumption)) | go_size)); (first | done | fail)))).keeps hk5; have HS := (HS.keeps (by ((repeat' (first | (with_reducible exact Keeps.refl _) | (with_reducible assumption) | (with_reducible refine Keeps.drewN ?_ _) | (with_reducible refine Keeps.drew ?_) | (with_reducible refine Keeps.alloc ?_ _) | (with_reducible refine Keeps.setCell ?_ ?_ _) | (with_reducible refine Keeps.trans ?_ (After.keeps _)) | (with_reducible refine Keeps.trans ?_ (by with_reducible assumption)) | go_size)); (first | done | fail)))).keeps hk5; have M := (M.keeps (by ((repeat' (first | (with_reducible exact Keeps.refl _) | (with_reducible assumption) | (with_reducible refine Keeps.drewN ?_ _) | (with_reducible refine Keeps.drew ?_) | (with_reducible refine Keeps.alloc ?_ _) | (with_reducible refine Keeps.setCell ?_ ?_ _) | (with_reducible refine Keeps.trans ?_ (After.keeps _)) | (with_reducible refine Keeps.trans ?_ (by with_reducible assumption)) | go_size)); (first | done | fail)))).keeps hk5; have hu3 := hu3.trans (Upd.of_keeps ((Keeps.drew (Keeps.refl w)).trans hk5)))
        | (go_at_call 106; refine (rmcas_ne M hd _ _ HO.out hcc hne).mono ?_; rintro e w' ⟨rfl, hu2, M⟩; have HT := HT.upd hu2 (by simp only [List.mem_cons, List.not_mem_nil, or_false, not_or]; (repeat' apply And.intro) <;> assumption); have HS := HS.upd hu2 (by simp only [List.mem_cons, List.not_mem_nil, or_false, not_or]; (repeat' apply And.intro) <;> assumption); have hu3 := hu3.trans hu2; have FX_ := (HT).facts; simp only [blockFacts, listFacts, cellsAt, Nat.reduceAdd, and_true, true_and, and_assoc] at FX_))
    go_wp2
    go_ret
    have hUT : Upd [T] w' ((w'.setCell ⟨T, 6, none⟩ (.bool false)).setCell ⟨T, 2, none⟩ (.int .i64 0)) := ((Upd.refl _ _).setCell (.inl (by simp)) _).setCell (.inl (by simp)) _
    exact ⟨rfl, ((hu0.mono (by simp)).trans (hu3.mono (by simp))).trans (hUT.mono (by simp)), by (apply Has.congr; (focus ((repeat (first | (with_reducible assumption) | (with_reducible exact Has.new _ _ _) | (with_reducible exact Has.new1 _ _ _ _) | (with_reducible exact Has.new2 _ _ _ _ _) | (with_reducible refine Has.newAt ?_; (simp; done)) | (with_reducible apply Has.set) | (with_reducible apply Has.far; (case hn => first | assumption | (simp; done) | (intro e_; simp at e_; omega))) | (with_reducible apply Has.alloc) | (with_reducible apply Has.drewN) | (with_reducible apply Has.drew) | (with_reducible refine Has.keeps ?_ (by with_reducible assumption)))))); (first | rfl | (simp; done))), M.upd hUT (by simpa using Ne.symm nTg) (by simpa using Ne.symm nTb)⟩
theorem rpop_done {v : Value} {a : Int} (hT : Has w T (rpopOf S mo a de o v true) 160) :
    Calls Tryz.prog 97 #[.pointer (some ⟨T, 0, none⟩)] w fun e w' => e = .returned (.bool false) ∧ w = w' := by
  have FX_ := (hT).facts; simp only [blockFacts, listFacts, cellsAt, Nat.reduceAdd, and_true, true_and, and_assoc] at FX_
  go_enter Tryz.func97, Tryz.ntmps97
  go_wp2
  go_ret
  exact ⟨rfl, rfl⟩
/-- The Load of the head of an empty stack. -/
theorem rpop_none {v : Value} (hT : Has w T (rpopOf S mo 0 de o v false) 160) (hS : Has w S (rstackOf g hd lk n) 136) (M : RMem w g b N l cc) (L : StOk hd lk n N l) (hcc : cc < 4611686018427387903) (ht : topI n (l.getD hd 0) < 0) :
    Calls Tryz.prog 97 #[.pointer (some ⟨T, 0, none⟩)] w fun e w' => e = .returned (.bool true) ∧ Upd [T, g, b] w w' ∧ Has w' T (rpopOf S mo 0 de (l.getD hd 0) (.slice none 0 0) true) 160 ∧ RMem w' g b N l (cc + 1) := by
  have hl2 := L.len
  have hl5 := L.hd1
  have nTg : T ≠ g := hT.ne M.hg (by decide)
  have nTb : T ≠ b := hT.ne M.hb (by decide)
  have nTS : T ≠ S := hT.ne hS (by decide)
  have nST := Ne.symm nTS
  have nSg : S ≠ g := hS.ne M.hg (by decide)
  have nSb : S ≠ b := hS.ne M.hb (by decide)
  have HO : Hid (l[hd]? = some (l.getD hd 0)) := Lib.hid (getD_some (by omega))
  obtain ⟨o0, o1⟩ := L.words _ (List.mem_of_getElem? HO.out)
  generalize l.getD hd 0 = lw at *
  obtain ⟨tp, htp⟩ : ∃ tp, topI n lw = tp := ⟨_, rfl⟩
  rw [htp] at ht
  have HTP := Lib.hid htp
  clear htp
  have HT := hT
  have HS := hS
  have FX_ := (hT).facts; simp only [blockFacts, listFacts, cellsAt, Nat.reduceAdd, and_true, true_and, and_assoc] at FX_
  have FX_ := (hS).facts; simp only [blockFacts, listFacts, cellsAt, Nat.reduceAdd, and_true, true_and, and_assoc, rstackOf] at FX_
  go_enter Tryz.func97, Tryz.ntmps97
  go_wp2
  go_region_held3 (fun y => y.cell? ⟨S, 0, none⟩ = some (.pointer (some ⟨g, 0, none⟩)) ∧ y.cell? ⟨S, 1, none⟩ = some (.int .i64 hd)) (((repeat' (with_reducible apply And.intro)) <;> (apply Has.cellv; (focus ((repeat (first | (with_reducible assumption) | (with_reducible exact Has.new _ _ _) | (with_reducible exact Has.new1 _ _ _ _) | (with_reducible exact Has.new2 _ _ _ _ _) | (with_reducible refine Has.newAt ?_; (simp; done)) | (with_reducible apply Has.set) | (with_reducible apply Has.far; (case hn => first | assumption | (simp; done) | (intro e_; simp at e_; omega))) | (with_reducible apply Has.alloc) | (with_reducible apply Has.drewN) | (with_reducible apply Has.drew) | (with_reducible refine Has.keeps ?_ (by with_reducible assumption)))))); (first | (with_reducible assumption) | rfl | (simp; done) | fail))))
    ((go_at_call 100; refine (rmload (M.keeps (by ((repeat' (first | (with_reducible exact Keeps.refl _) | (with_reducible assumption) | (with_reducible refine Keeps.drewN ?_ _) | (with_reducible refine Keeps.drew ?_) | (with_reducible refine Keeps.alloc ?_ _) | (with_reducible refine Keeps.setCell ?_ ?_ _) | (with_reducible refine Keeps.trans ?_ (After.keeps _)) | (with_reducible refine Keeps.trans ?_ (by with_reducible assumption)) | go_size)); (first | done | fail)))) hd HO.out hcc).mono ?_; rintro e w' ⟨rfl, hu2, M2⟩; have HT := (HT.keeps (by ((repeat' (first | (with_reducible exact Keeps.refl _) | (with_reducible assumption) | (with_reducible refine Keeps.drewN ?_ _) | (with_reducible refine Keeps.drew ?_) | (with_reducible refine Keeps.alloc ?_ _) | (with_reducible refine Keeps.setCell ?_ ?_ _) | (with_reducible refine Keeps.trans ?_ (After.keeps _)) | (with_reducible refine Keeps.trans ?_ (by with_reducible assumption)) | go_size)); (first | done | fail)))).upd hu2 (by simp only [List.mem_cons, List.not_mem_nil, or_false, not_or]; (repeat' apply And.intro) <;> assumption); have HS := (HS.keeps (by ((repeat' (first | (with_reducible exact Keeps.refl _) | (with_reducible assumption) | (with_reducible refine Keeps.drewN ?_ _) | (with_reducible refine Keeps.drew ?_) | (with_reducible refine Keeps.alloc ?_ _) | (with_reducible refine Keeps.setCell ?_ ?_ _) | (with_reducible refine Keeps.trans ?_ (After.keeps _)) | (with_reducible refine Keeps.trans ?_ (by with_reducible assumption)) | go_size)); (first | done | fail)))).upd hu2 (by simp only [List.mem_cons, List.not_mem_nil, or_false, not_or]; (repeat' apply And.intro) <;> assumption); have hu3 := (Upd.of_keeps (S := [g, b]) (Keeps.drew (Keeps.refl w))).trans hu2; have FX_ := (HT).facts; simp only [blockFacts, listFacts, cellsAt, Nat.reduceAdd, and_true, true_and, and_assoc] at FX_))
  have hUa : Upd [T] w' ((w'.setCell ⟨T, 4, none⟩ (.int .u64 lw)).setCell ⟨T, 5, none⟩ (.slice none 0 0)) := ((Upd.refl _ _).setCell (.inl (by simp)) _).setCell (.inl (by simp)) _
  have HSb := HS.upd hUa (by simpa using nST)
  have HTb : Has ((w'.setCell ⟨T, 4, none⟩ (.int .u64 lw)).setCell ⟨T, 5, none⟩ (.slice none 0 0)) T (rpopOf S mo 0 de lw (.slice none 0 0) false) 160 := by (apply Has.congr; (focus ((repeat (first | (with_reducible assumption) | (with_reducible exact Has.new _ _ _) | (with_reducible exact Has.new1 _ _ _ _) | (with_reducible exact Has.new2 _ _ _ _ _) | (with_reducible refine Has.newAt ?_; (simp; done)) | (with_reducible apply Has.set) | (with_reducible apply Has.far; (case hn => first | assumption | (simp; done) | (intro e_; simp at e_; omega))) | (with_reducible apply Has.alloc) | (with_reducible apply Has.drewN) | (with_reducible apply Has.drew) | (with_reducible refine Has.keeps ?_ (by with_reducible assumption)))))); (first | rfl | (simp; done)))
  have M3 := M2.upd hUa (by simpa using Ne.symm nTg) (by simpa using Ne.symm nTb)
  have hu4 := (hu3.mono (T := [T, g, b]) (by simp)).trans (hUa.mono (by simp))
  go_wp2_with (go_at_call 67; refine (rtop_c _ HSb o0 o1).mono ?_; rintro e w' ⟨rfl, hk5⟩; rw [HTP.out]; have HTb := HTb.keeps hk5; have M3 := M3.keeps hk5; have hu4 := hu4.trans (Upd.of_keeps hk5); have FX_ := (HTb).facts; simp only [blockFacts, listFacts, cellsAt, Nat.reduceAdd, and_true, true_and, and_assoc] at FX_)
  go_ret
  have hUT : Upd [T] w' (w'.setCell ⟨T, 6, none⟩ (.bool true)) := (Upd.refl _ _).setCell (.inl (by simp)) _
  exact ⟨rfl, hu4.trans (hUT.mono (by simp)), by (apply Has.congr; (focus ((repeat (first | (with_reducible assumption) | (with_reducible exact Has.new _ _ _) | (with_reducible exact Has.new1 _ _ _ _) | (with_reducible exact Has.new2 _ _ _ _ _) | (with_reducible refine Has.newAt ?_; (simp; done)) | (with_reducible apply Has.set) | (with_reducible apply Has.far; (case hn => first | assumption | (simp; done) | (intro e_; simp at e_; omega))) | (with_reducible apply Has.alloc) | (with_reducible apply Has.drewN) | (with_reducible apply Has.drew) | (with_reducible refine Has.keeps ?_ (by with_reducible assumption)))))); (first | rfl | (simp; done))), M3.upd hUT (by simpa using Ne.symm nTg) (by simpa using Ne.symm nTb)⟩
end
end Go.Proofs.YtaecapjicphdkaaGreat

/- The chapter's example of stacks, walked; a Step of one by himself. -/
namespace Go.Proofs.YtaecapjicphdkaaGreat
set_option linter.unusedVariables false
set_option linter.unusedSimpArgs false
open Go Go.RowKit
set_option maxRecDepth 100000
set_option maxHeartbeats 1000000

section
variable {w : World} {S m b N hd lk n B : Nat} {cc cc0 : Int} {x : Acc} {g : Nat} {v : Value} {k : Nat} {C : Int}
/-- A Pop alone: k steps done, one more. -/
theorem poRunStep_c {p : List Int × Po} (o : Bool) (ho : decide ((poRun hd lk n k p).2.ph < 3) = o) (hg : PoRep w B g S v (poRun hd lk n k p).2) (hS : Has w S (stackOf m hd lk n) 143) (M : Mem w m b N (poRun hd lk n k p).1 (cc0 + (poRun hd lk n k p).2.c) x)
    (L : StOk hd lk n N p.1) (H : PoInv n C p.2) (hC : C + k ≤ 400000) (hB : B ≤ w.heap.size) (h0 : cc0 ≤ 4000000000000) :
    Calls Tryz.prog 71 #[.pointer (some ⟨g, 0, none⟩)] w fun e w' => ∃ v', e = .returned (.bool o) ∧ Upd (g :: m :: b :: ownB v) w w' ∧
      PoRep w' B g S v' (poRun hd lk n (k + 1) p).2 ∧ Has w' S (stackOf m hd lk n) 143 ∧ (∃ x', Mem w' m b N (poRun hd lk n (k + 1) p).1 (cc0 + (poRun hd lk n (k + 1) p).2.c) x') ∧ (∀ y ∈ ownB v', y ∈ ownB v ∨ w.heap.size ≤ y) := by
  have hI := poRun_inv L H k
  have ngS : S ≠ g := (Has.ne hg.has hS (by decide)).symm
  have ngm : S ≠ m := hS.ne M.hg (by decide)
  have ngb : S ≠ b := hS.ne M.hb (by decide)
  have nr := hg.row.ne hS (by decide)
  have hc1 := hI.2.c1
  refine (poStep_c hg hS M hI.1 (hI.2.ok (by omega)) hB (by omega)).mono ?_
  rintro e w' ⟨v', rfl, hu, hA, ⟨x', M'⟩, hv⟩
  refine ⟨v', by rw [ho], hu, hA, hS.upd hu (by simp; exact ⟨ngS, ngm, ngb, fun hx => nr _ hx rfl⟩), ⟨x', ?_⟩, hv⟩
  have e : (poRun hd lk n (k + 1) p).2.c = (poRun hd lk n k p).2.c + poCount (poRun hd lk n k p).2 := poStep_count _ _ _ _ _
  rw [e, ← Int.add_assoc]
  exact M'
theorem puRunStep_c {p : List Int × Pu} (o : Bool) (ho : decide ((puRun hd lk n k p).2.ph < 4) = o) (hg : PuRep w B g S v (puRun hd lk n k p).2) (hS : Has w S (stackOf m hd lk n) 143) (M : Mem w m b N (puRun hd lk n k p).1 (cc0 + (puRun hd lk n k p).2.c) x)
    (L : StOk hd lk n N p.1) (H : PuInv n C p.2) (hC : C + k ≤ 400000) (h0 : cc0 ≤ 4000000000000) :
    Calls Tryz.prog 55 #[.pointer (some ⟨g, 0, none⟩)] w fun e w' => e = .returned (.bool o) ∧ Upd [g, m, b] w w' ∧
      PuRep w' B g S v (puRun hd lk n (k + 1) p).2 ∧ Has w' S (stackOf m hd lk n) 143 ∧ (∃ x', Mem w' m b N (puRun hd lk n (k + 1) p).1 (cc0 + (puRun hd lk n (k + 1) p).2.c) x') := by
  have hI := puRun_inv L H k
  have ngS : S ≠ g := (Has.ne hg.has hS (by decide)).symm
  have ngm : S ≠ m := hS.ne M.hg (by decide)
  have ngb : S ≠ b := hS.ne M.hb (by decide)
  have hc1 := hI.2.c1
  refine (puStep_c hg hS M hI.1 (hI.2.ok (by omega)) (by omega)).mono ?_
  rintro e w' ⟨rfl, hu, hA, x', M'⟩
  refine ⟨by rw [ho], hu, hA, hS.upd hu (by simp; exact ⟨ngS, ngm, ngb⟩), x', ?_⟩
  have e : (puRun hd lk n (k + 1) p).2.c = (puRun hd lk n k p).2.c + puCount (puRun hd lk n k p).2 := puStep_count _ _ _
  rw [e, ← Int.add_assoc]
  exact M'
end
theorem hS_ne {w : World} {S m b N : Nat} {h lk n : Int} {l : List Int} {cc : Int} {x : Acc} (hS : Has w S (stackOf m h lk n) 143) (M : Mem w m b N l cc x) : S ∉ [m, b] := by
  simp only [List.mem_cons, List.not_mem_nil, or_false, not_or]
  exact ⟨hS.ne M.hg (by decide), hS.ne M.hb (by decide)⟩
theorem ge_mb {A m b : Nat} (h2 : A ≤ m) (h3 : A ≤ b) : ∀ y ∈ [m, b], A ≤ y := by
  intro y hy
  simp only [List.mem_cons, List.not_mem_nil, or_false] at hy
  rcases hy with rfl | rfl
  · exact h2
  · exact h3
theorem ge_po {A g m b : Nat} {v : Value} (h1 : A ≤ g) (h2 : A ≤ m) (h3 : A ≤ b) (h4 : ∀ y ∈ ownB v, A ≤ y) : ∀ y ∈ g :: m :: b :: ownB v, A ≤ y := by
  intro y hy
  simp only [List.mem_cons] at hy
  rcases hy with rfl | rfl | rfl | hy
  · exact h1
  · exact h2
  · exact h3
  · exact h4 y hy
theorem ge_pu {A g m b : Nat} (h1 : A ≤ g) (h2 : A ≤ m) (h3 : A ≤ b) : ∀ y ∈ [g, m, b], A ≤ y := by
  intro y hy
  simp only [List.mem_cons, List.not_mem_nil, or_false] at hy
  rcases hy with rfl | rfl | rfl
  · exact h1
  · exact h2
  · exact h3
theorem PoRep.keeps {w w' : World} {B g S : Nat} {v : Value} {s : Po} (h : PoRep w B g S v s) (k : Keeps w w') : PoRep w' B g S v s := ⟨h.has.keeps k, h.row.keeps k⟩
theorem PuRep.keeps {w w' : World} {B g S : Nat} {v : Value} {s : Pu} (h : PuRep w B g S v s) (k : Keeps w w') : PuRep w' B g S v s := ⟨h.has.keeps k, h.row.keeps k⟩
theorem StOk.zero (n : Nat) (h : n ≤ 4096) : StOk 0 2 n (n + 2) (List.replicate (n + 2) 0) :=
  ⟨by simp, by omega, by omega, by omega, h, fun v hv => by have := List.eq_of_mem_replicate hv; omega⟩
end Go.Proofs.YtaecapjicphdkaaGreat

/- The chapter's example of stacks, walked. -/
namespace Go.Proofs.YtaecapjicphdkaaGreat
set_option linter.unusedVariables false
set_option linter.unusedSimpArgs false
open Go Go.RowKit
set_option maxRecDepth 100000
set_option maxHeartbeats 2000000

abbrev po0 (most : Int) : Po := ⟨0, 0, most, 0, 0, []⟩
theorem po0_inv (n : Nat) (most : Int) : PoInv n 0 (po0 most) := ⟨fun e => by simp at e, by simp, by simp, by simp, by simp, by simp, by simp⟩
end Go.Proofs.YtaecapjicphdkaaGreat

/- One by himself: alone and takes, walked. -/
namespace Go.Proofs.YtaecapjicphdkaaGreat
set_option linter.unusedVariables false
set_option linter.unusedSimpArgs false
open Go Go.RowKit
set_option maxRecDepth 100000
set_option maxHeartbeats 2000000

theorem Upd.fresh {S T : List Nat} {a b c : World} (h : Upd S a b) (k : Upd T b c) (hT : ∀ x ∈ T, x ∈ S ∨ a.heap.size ≤ x) : Upd S a c :=
  ⟨k.os.trans h.os, k.tape.trans h.tape, k.output.trans h.output, Nat.le_trans h.size k.size, fun i hi hn => (k.block i (Nat.lt_of_lt_of_le hi h.size) (fun hx => by
    rcases hT i hx with h1 | h1
    · exact hn h1
    · omega)).trans (h.block i hi hn)⟩
theorem in_pu {A g m b : Nat} (h : A ≤ g) : ∀ y ∈ [g, m, b], y ∈ [m, b] ∨ A ≤ y := by
  intro y hy
  simp only [List.mem_cons, List.not_mem_nil, or_false] at hy ⊢
  rcases hy with rfl | rfl | rfl
  · exact .inr h
  · exact .inl (.inl rfl)
  · exact .inl (.inr rfl)
theorem in_po {A g m b : Nat} {v : Value} (h : A ≤ g) (hv : ∀ y ∈ ownB v, A ≤ y) : ∀ y ∈ g :: m :: b :: ownB v, y ∈ [m, b] ∨ A ≤ y := by
  intro y hy
  simp only [List.mem_cons] at hy
  rcases hy with rfl | rfl | rfl | hy
  · exact .inr h
  · exact .inl (by simp)
  · exact .inl (by simp)
  · exact .inr (hv y hy)
theorem puRun_stop {hd lk n k : Nat} {p : List Int × Pu} (h : (puRun hd lk n k p).2.ph = 4) : puRun hd lk n (k + 1) p = puRun hd lk n k p := by
  show (puMem hd lk n (puRun hd lk n k p).1 (puRun hd lk n k p).2, puStep hd (puRun hd lk n k p).1 (puRun hd lk n k p).2) = _
  generalize puRun hd lk n k p = r at *
  obtain ⟨l, ph, c, zs, i, was⟩ := r
  dsimp only at h
  subst h
  rfl
theorem poRun_stop {hd lk n k : Nat} {p : List Int × Po} (h : (poRun hd lk n k p).2.ph = 3) : poRun hd lk n (k + 1) p = poRun hd lk n k p := by
  show (poMem hd (poRun hd lk n k p).1 (poRun hd lk n k p).2, poStep hd lk n (poRun hd lk n k p).1 (poRun hd lk n k p).2) = _
  generalize poRun hd lk n k p = r at *
  obtain ⟨l, ph, c, most, under, was, got⟩ := r
  dsimp only at h
  subst h
  rfl
section
variable {w : World} {S m b N hd lk n : Nat} {l zs : List Int} {cc : Int} {x : Acc}
variable {T : Nat} {L : List Int}
end
end Go.Proofs.YtaecapjicphdkaaGreat

/- table at a number of any spelling; an empty stack. -/
namespace Go.Proofs.YtaecapjicphdkaaGreat
set_option linter.unusedVariables false
set_option linter.unusedSimpArgs false
open Go Go.RowKit
set_option maxRecDepth 100000

theorem stRep_zero (n : Nat) (h : n ≤ 4096) : StRep 0 2 n (n + 2) (List.replicate (n + 2) 0) 0 [] :=
  ⟨StOk.zero n h, .inl (by omega), by simp [List.replicate_succ], by simp [List.replicate_succ], by simp [List.replicate_succ, Lnk, topI], by simp⟩
end Go.Proofs.YtaecapjicphdkaaGreat

/- once, walked; appends inside a drawn region. -/
namespace Go.Proofs.YtaecapjicphdkaaGreat
set_option linter.unusedVariables false
set_option linter.unusedSimpArgs false
open Go Go.RowKit
set_option maxRecDepth 100000
set_option maxHeartbeats 1000000

theorem flags_congr {n : Nat} {L M : List Int} (h : ∀ z, z ∈ L ↔ z ∈ M) : flags n L = flags n M := by
  unfold flags
  congr 1
  refine List.map_congr_left fun z _ => ?_
  rw [decide_eq_decide.2 (h z)]
section
variable {B : Nat} {w : World} {v : Value} {xs ys : List Int}
/-- append of ints as a step of a region that draws. -/
theorem step_append_ints {ops : Array Oper} {o : Oper} {a : Act} {K : Act → World → Prop} {Q : Exit → Act → World → Prop} {E : Prop} (hgd : o.guard = none) (s x : Operand)
    (ho : o.op = .call { callee := .builtin .append, args := #[s, x], argTypes := #[49, 49] })
    (y : Value) (hs : a.eval s = v) (hx : a.eval x = y) (hown : Row B 3 w v (ivals xs)) (hsrc : Src w y ys) (hlen : xs.length + ys.length ≤ 1000000) (hB : B ≤ w.heap.size)
    (h : ∀ v' w', Row B 3 w' v' (ivals (xs ++ ys)) → Upd (ownB v) w w' → (∀ z ∈ ownB v', z ∈ ownB v ∨ z = w.heap.size) → K (a.put o.dst v') w') :
    if Region.wanted o (yielded ops a.tmps) = true then Oper.wp Tryz.prog o a w K Q else E := by
  obtain ⟨i0, hi, hz0, hz1, hz2⟩ := info_parts info_int
  have hw : Region.wanted o (yielded ops a.tmps) = true := by simp [Region.wanted, hgd]
  rw [if_pos hw]
  rcases hsrc with ⟨rfl, rfl⟩ | ⟨ad, c, rfl, hc⟩
  · have hrun := run_append_owned_none (P := Tryz.prog) (w := w) B 49 o.type 3 i0 1 Tryz.underlying49 hi v _ _ hown
    unfold Oper.wp
    simp [execOp, ho, resolve, invoke, builtin, hs, hx, hrun, Result.andThen]
    exact h v w (by rw [List.append_nil]; exact hown) (Upd.refl _ _) (fun z hz => .inl hz)
  · have hnews : ∀ (j : Nat) u, (ivals ys)[j]? = some u → w.cell? (ad.add j) = some u := fun j u hj => by
      have hj2 : j < ys.length := by have := (List.getElem?_eq_some_iff.1 hj).1; simpa using this
      simp only [ivals, List.getElem?_map, List.getElem?_eq_getElem hj2, Option.map_some, Option.some.injEq] at hj
      rw [hc j ys[j] (List.getElem?_eq_getElem hj2), hj]
    obtain ⟨v', w', hr, h1, h2, _, h4⟩ := run_append_own_at (P := Tryz.prog) w B 49 o.type 3 i0 _ 1 8 Tryz.underlying49 hi hz0 hz1 hz2 rfl (by decide) v _ _ hown ad ys.length c (ivals ys) (by simp) hnews (ivals_one ys) (by simp only [ivals, List.length_map]; unfold maxLen; omega) (by simp only [ivals, List.length_map]; omega) hB
    unfold Oper.wp execOp
    simp only [ho, resolve, invoke, builtin, Sem.run_bind, Sem.run_pure, Result.andThen_ok, List.map_toArray, List.map_cons, List.map_nil, hs, hx, hr]
    refine h v' w' ?_ (Upd.grown h2) (fun z hz => ?_)
    · unfold Row
      have e : ivals (xs ++ ys) = ivals xs ++ ivals ys := by simp [ivals]
      rw [e, List.length_append, show (ivals ys).length = ys.length by simp]
      exact h1
    · rcases h4 with h4 | h4
      · exact .inl (by unfold ownB at hz ⊢; rw [h4] at hz; exact hz)
      · right; unfold ownB at hz; rw [h4] at hz; simpa using hz
theorem CutI.src {w : World} {v : Value} {L : List Int} (h : CutI w v L) (hne : L ≠ []) : Src w v L := by
  obtain ⟨a, cap, rfl, _, h⟩ := h
  obtain ⟨g, off, cur, rfl, hg, hc⟩ := h hne
  exact .inr ⟨⟨g, off, none⟩, cap, rfl, fun j z hj => by rw [addr_add]; exact (hg.cell _).trans (hc j z hj)⟩
theorem CutI.srcDrop {w : World} {L : List Int} {g off cap k c n : Nat} (h : CutI w (.slice (some ⟨g, off, none⟩) L.length cap) L) (hk : k ≤ L.length) (ad : Addr) (had : k < L.length → ad = ⟨g, off + k, none⟩) (hn : n = L.length - k) : Src w (.slice (some ad) n c) (L.drop k) := by
  refine .inr ⟨ad, c, by rw [hn, List.length_drop], fun j z hj => ?_⟩
  rw [List.getElem?_drop] at hj
  have hlt : k + j < L.length := (List.getElem?_eq_some_iff.1 hj).1
  obtain ⟨a', cap', hv, _, h⟩ := h
  cases hv
  obtain ⟨g', off', cur, ha, hg, hc⟩ := h (by rintro rfl; simp at hlt)
  cases ha
  rw [had (by omega), addr_add, Nat.add_assoc]
  exact (hg.cell _).trans (hc _ z hj)
end
end Go.Proofs.YtaecapjicphdkaaGreat
