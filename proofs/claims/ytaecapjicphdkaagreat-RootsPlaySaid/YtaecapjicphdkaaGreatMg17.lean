/- The document's Push, walked. -/
import Derived.Test.YtaecapjicphdkaaGreatMg16
import Derived.Test.YtaecapjicphdkaaGreatMg06
namespace Go.Proofs.YtaecapjicphdkaaGreat
set_option linter.unusedVariables false
set_option linter.unusedSimpArgs false
open Go Go.RowKit
set_option maxRecDepth 100000
attribute [local go_sem ↓] Go.wp_at_zero Go.wp_at_succ
set_option maxHeartbeats 1000000

theorem rnextW_c (x item : Int) (w : World) (h0 : 0 ≤ x) (h1 : x < 18446744073709551616) :
    Calls Tryz.prog 108 #[.int .u64 x, .int .i64 item] w fun e w' => e = .returned (.int .u64 (nextI x item)) ∧ Keeps w w' := by
  obtain ⟨q, hq⟩ : ∃ q, nextI x item = q := ⟨_, rfl⟩
  have HQ : Hid (headI item (tagN (x / 4294967296)) = q) := Lib.hid hq
  rw [hq]
  clear hq
  have K0 := Keeps.refl w
  go_enter Tryz.func108, Tryz.ntmps108
  go_wp2_with (first
    | (go_at_call 113; refine (rgetHead_c _ _ h0 h1).mono ?_; rintro e w' ⟨rfl, hk⟩; have K0 := K0.trans hk)
    | (go_at_call 132; refine (rnext_c _ _ _ _).mono ?_; rintro e w' ⟨rfl, hk⟩; have K0 := K0.trans hk)
    | (go_at_call 129; refine (rputHead_c _ _ _).mono ?_; rintro e w' ⟨rfl, hk⟩; rw [HQ.out]; have K0 := K0.trans hk))
  go_ret
  exact ⟨rfl, K0⟩
abbrev rpushOf (S : Nat) (v : Value) (a o : Int) (dn : Bool) : Array Value := #[.pointer (some ⟨S, 0, none⟩), v, .int .i64 a, .int .u64 o, .bool dn]
section
variable {w : World} {S g b N hd lk n T k : Nat} {l : List Int} {cc o : Int} {va : Option Addr} {cap : Nat}
theorem rpush_done {v : Value} {a : Int} (hT : Has w T (rpushOf S v a o true) 133) :
    Calls Tryz.prog 65 #[.pointer (some ⟨T, 0, none⟩)] w fun e w' => e = .returned (.bool false) ∧ w = w' := by
  have FX_ := (hT).facts; simp only [blockFacts, listFacts, cellsAt, Nat.reduceAdd, and_true, true_and, and_assoc] at FX_
  go_enter Tryz.func65, Tryz.ntmps65
  go_wp2
  go_ret
  exact ⟨rfl, rfl⟩
/-- The access that loads the head. -/
theorem rpush_load (hT : Has w T (rpushOf S (.slice va k cap) ((k : Int) - 1) o false) 133) (hS : Has w S (rstackOf g hd lk n) 136) (M : RMem w g b N l cc) (L : StOk hd lk n N l) (hk1 : 1 ≤ k) (hk2 : k ≤ 1000000) (hcc : cc < 4611686018427387903) :
    Calls Tryz.prog 65 #[.pointer (some ⟨T, 0, none⟩)] w fun e w' => e = .returned (.bool true) ∧ Upd [T, g, b] w w' ∧ Has w' T (rpushOf S (.slice va k cap) k (l.getD hd 0) false) 133 ∧ RMem w' g b N l (cc + 1) := by
  have hl2 := L.len
  have hl5 := L.hd1
  have nTg : T ≠ g := hT.ne M.hg (by decide)
  have nTb : T ≠ b := hT.ne M.hb (by decide)
  have nTS : T ≠ S := hT.ne hS (by decide)
  have nST := Ne.symm nTS
  have nSg : S ≠ g := hS.ne M.hg (by decide)
  have nSb : S ≠ b := hS.ne M.hb (by decide)
  have HO : Hid (l[hd]? = some (l.getD hd 0)) := Lib.hid (getD_some (by omega))
  generalize l.getD hd 0 = lw at *
  have pw := wrapI_ok ((k : Int) - 1) (by omega) (by omega)
  have pw2 := wrapI_ok (k : Int) (by omega) (by omega)
  have pj : (k : Int) - 1 + 1 = k := by omega
  have nl : ¬ ((k : Int) - 1 < (k : Int) - 1) := by omega
  have HT := hT
  have HS := hS
  have KA := Keeps.refl w
  have FX_ := (hT).facts; simp only [blockFacts, listFacts, cellsAt, Nat.reduceAdd, and_true, true_and, and_assoc] at FX_
  have FX_ := (hS).facts; simp only [blockFacts, listFacts, cellsAt, Nat.reduceAdd, and_true, true_and, and_assoc, rstackOf] at FX_
  go_enter Tryz.func65, Tryz.ntmps65
  go_wp2
  go_quiet (fail)
  go_wp2
  generalize hW9 : w.drewN _ = W1
  have hu0 : Upd [] w W1 := by rw [← hW9]; (repeat (first | (with_reducible exact Upd.refl _ _) | (with_reducible assumption) | (with_reducible refine Upd.setCell ?_ (by first | (left; simp; done) | (right; go_size)) _) | (with_reducible refine Upd.alloc ?_ _) | (with_reducible refine Upd.drewN ?_ _) | (with_reducible refine Upd.drew ?_)))
  clear hW9
  have HT := HT.upd hu0 (by simp)
  have HS := HS.upd hu0 (by simp)
  have M := M.upd hu0 (by simp) (by simp)
  go_region_held3 (fun y => y.cell? ⟨S, 0, none⟩ = some (.pointer (some ⟨g, 0, none⟩)) ∧ y.cell? ⟨S, 1, none⟩ = some (.int .i64 hd)) (((repeat' (with_reducible apply And.intro)) <;> (apply Has.cellv; (focus ((repeat (first | (with_reducible assumption) | (with_reducible exact Has.new _ _ _) | (with_reducible exact Has.new1 _ _ _ _) | (with_reducible exact Has.new2 _ _ _ _ _) | (with_reducible refine Has.newAt ?_; (simp; done)) | (with_reducible apply Has.set) | (with_reducible apply Has.far; (case hn => first | assumption | (simp; done) | (intro e_; simp at e_; omega))) | (with_reducible apply Has.alloc) | (with_reducible apply Has.drewN) | (with_reducible apply Has.drew) | (with_reducible refine Has.keeps ?_ (by with_reducible assumption)))))); (first | (with_reducible assumption) | rfl | (simp; done) | fail))))
    ((go_at_call 100; refine (rmload (M.keeps (by ((repeat' (first | (with_reducible exact Keeps.refl _) | (with_reducible assumption) | (with_reducible refine Keeps.drewN ?_ _) | (with_reducible refine Keeps.drew ?_) | (with_reducible refine Keeps.alloc ?_ _) | (with_reducible refine Keeps.setCell ?_ ?_ _) | (with_reducible refine Keeps.trans ?_ (After.keeps _)) | (with_reducible refine Keeps.trans ?_ (by with_reducible assumption)) | go_size)); (first | done | fail)))) hd HO.out hcc).mono ?_; rintro e w' ⟨rfl, hu2, M2⟩; have HT := (HT.keeps (by ((repeat' (first | (with_reducible exact Keeps.refl _) | (with_reducible assumption) | (with_reducible refine Keeps.drewN ?_ _) | (with_reducible refine Keeps.drew ?_) | (with_reducible refine Keeps.alloc ?_ _) | (with_reducible refine Keeps.setCell ?_ ?_ _) | (with_reducible refine Keeps.trans ?_ (After.keeps _)) | (with_reducible refine Keeps.trans ?_ (by with_reducible assumption)) | go_size)); (first | done | fail)))).upd hu2 (by simp only [List.mem_cons, List.not_mem_nil, or_false, not_or]; (repeat' apply And.intro) <;> assumption); have HS := (HS.keeps (by ((repeat' (first | (with_reducible exact Keeps.refl _) | (with_reducible assumption) | (with_reducible refine Keeps.drewN ?_ _) | (with_reducible refine Keeps.drew ?_) | (with_reducible refine Keeps.alloc ?_ _) | (with_reducible refine Keeps.setCell ?_ ?_ _) | (with_reducible refine Keeps.trans ?_ (After.keeps _)) | (with_reducible refine Keeps.trans ?_ (by with_reducible assumption)) | go_size)); (first | done | fail)))).upd hu2 (by simp only [List.mem_cons, List.not_mem_nil, or_false, not_or]; (repeat' apply And.intro) <;> assumption); have hu3 := (Upd.of_keeps (S := [g, b]) (Keeps.drew (Keeps.refl W1))).trans hu2; have FX_ := (HT).facts; simp only [blockFacts, listFacts, cellsAt, Nat.reduceAdd, and_true, true_and, and_assoc] at FX_))
  go_wp2
  go_ret
  have hUT : Upd [T] w' ((w'.setCell ⟨T, 3, none⟩ (.int .u64 lw)).setCell ⟨T, 2, none⟩ (.int .i64 k)) := ((Upd.refl _ _).setCell (.inl (by simp)) _).setCell (.inl (by simp)) _
  exact ⟨rfl, ((hu0.mono (by simp)).trans (hu3.mono (by simp))).trans (hUT.mono (by simp)), by (apply Has.congr; (focus ((repeat (first | (with_reducible assumption) | (with_reducible exact Has.new _ _ _) | (with_reducible exact Has.new1 _ _ _ _) | (with_reducible exact Has.new2 _ _ _ _ _) | (with_reducible refine Has.newAt ?_; (simp; done)) | (with_reducible apply Has.set) | (with_reducible apply Has.far; (case hn => first | assumption | (simp; done) | (intro e_; simp at e_; omega))) | (with_reducible apply Has.alloc) | (with_reducible apply Has.drewN) | (with_reducible apply Has.drew) | (with_reducible refine Has.keeps ?_ (by with_reducible assumption)))))); (first | rfl | (simp; done))), M2.upd hUT (by simpa using Ne.symm nTg) (by simpa using Ne.symm nTb)⟩
/-- The access that exchanges the head. -/
theorem rpush_cas {q0 : Int} {b0 : Nat} {cur : Array Value} (hT : Has w T (rpushOf S (.slice (some ⟨b0, 0, none⟩) k cap) ((k : Int) + 1) o false) 133) (hS : Has w S (rstackOf g hd lk n) 136) (M : RMem w g b N l cc) (L : StOk hd lk n N l) (hk1 : 1 ≤ k) (hk2 : k ≤ 1000000) (hcc : cc < 4611686018427387903) (o0 : 0 ≤ o) (o1 : o < 18446744073709551616)
    (hQ : Has w b0 cur 3) (hq0 : cur[0]? = some (.int .i64 q0)) :
    Calls Tryz.prog 65 #[.pointer (some ⟨T, 0, none⟩)] w fun e w' => e = .returned (.bool true) ∧ Upd [T, g, b] w w' ∧ Has w' T (rpushOf S (.slice (some ⟨b0, 0, none⟩) k cap) ((k : Int) - 1) o (decide (l.getD hd 0 = o))) 133 ∧ RMem w' g b N (if l.getD hd 0 = o then l.set hd (nextI o q0) else l) (cc + 1) := by
  have hl2 := L.len
  have hl5 := L.hd1
  have nTg : T ≠ g := hT.ne M.hg (by decide)
  have nTb : T ≠ b := hT.ne M.hb (by decide)
  have nTS : T ≠ S := hT.ne hS (by decide)
  have nST := Ne.symm nTS
  have nSg : S ≠ g := hS.ne M.hg (by decide)
  have nSb : S ≠ b := hS.ne M.hb (by decide)
  have HO : Hid (l[hd]? = some (l.getD hd 0)) := Lib.hid (getD_some (by omega))
  have pw := wrapI_ok ((k : Int) - 1) (by omega) (by omega)
  have pw2 := wrapI_ok (k : Int) (by omega) (by omega)
  have nl : ¬ ((k : Int) + 1 < (k : Int) - 1) := by omega
  have n2 : ((k : Int) + 1 == (k : Int) - 1) = false := by rw [beq_eq_false_iff_ne]; omega
  have n3 : ((k : Int) + 1 == (k : Int)) = false := by rw [beq_eq_false_iff_ne]; omega
  have n4 : ¬ ((k : Int) + 1 = (k : Int) - 1) := by omega
  have n5 : ¬ ((k : Int) + 1 = (k : Int)) := by omega
  have kb : 0 < k := by omega
  have kb2 : (0 : Int) < (k : Int) := by omega
  have HQ := hQ
  have nQg : b0 ≠ g := hQ.ne M.hg (by decide)
  have nQb : b0 ≠ b := hQ.ne M.hb (by decide)
  have nQT : b0 ≠ T := hQ.ne hT (by decide)
  by_cases he : l.getD hd 0 = o
  · rw [if_pos he, decide_eq_true he]
    rw [he] at HO
    clear he
    have HT := hT
    have HS := hS
    have KA := Keeps.refl w
    have FX_ := (hT).facts; simp only [blockFacts, listFacts, cellsAt, Nat.reduceAdd, and_true, true_and, and_assoc] at FX_
    have FX_ := (hS).facts; simp only [blockFacts, listFacts, cellsAt, Nat.reduceAdd, and_true, true_and, and_assoc, rstackOf] at FX_
    go_enter Tryz.func65, Tryz.ntmps65
    go_wp2
    go_quiet (fail)
    go_wp2
    generalize hW9 : w.drewN _ = W1
    have hu0 : Upd [] w W1 := by rw [← hW9]; (repeat (first | (with_reducible exact Upd.refl _ _) | (with_reducible assumption) | (with_reducible refine Upd.setCell ?_ (by first | (left; simp; done) | (right; go_size)) _) | (with_reducible refine Upd.alloc ?_ _) | (with_reducible refine Upd.drewN ?_ _) | (with_reducible refine Upd.drew ?_)))
    clear hW9
    have HT := HT.upd hu0 (by simp)
    have HS := HS.upd hu0 (by simp)
    have HQ := HQ.upd hu0 (by simp)
    have M := M.upd hu0 (by simp) (by simp)
    have hu3 := Upd.refl [g, b] W1
    go_region_held3 (fun y => (((y.cell? ⟨S, 0, none⟩ = some (.pointer (some ⟨g, 0, none⟩)) ∧ y.cell? ⟨S, 1, none⟩ = some (.int .i64 hd)) ∧ y.cell? ⟨T, 3, none⟩ = some (.int .u64 o)) ∧ y.cell? ⟨T, 1, none⟩ = some (.slice (some ⟨b0, 0, none⟩) k cap)) ∧ y.cell? ⟨b0, 0, none⟩ = some (.int .i64 q0)) (((repeat' (with_reducible apply And.intro)) <;> (apply Has.cellv; (focus ((repeat (first | (with_reducible assumption) | (with_reducible exact Has.new _ _ _) | (with_reducible exact Has.new1 _ _ _ _) | (with_reducible exact Has.new2 _ _ _ _ _) | (with_reducible refine Has.newAt ?_; (simp; done)) | (with_reducible apply Has.set) | (with_reducible apply Has.far; (case hn => first | assumption | (simp; done) | (intro e_; simp at e_; omega))) | (with_reducible apply Has.alloc) | (with_reducible apply Has.drewN) | (with_reducible apply Has.drew) | (with_reducible refine Has.keeps ?_ (by with_reducible assumption)))))); (first | (with_reducible assumption) | rfl | (simp; done) | fail))))
      (first
        | (go_at_call 108; refine (rnextW_c _ _ _ o0 o1).mono ?_; rintro e w' ⟨rfl, hk5⟩; have HT := (HT.keeps (by ((repeat' (first | (with_reducible exact Keeps.refl _) | (with_reducible assumption) | (with_reducible refine Keeps.drewN ?_ _) | (with_reducible refine Keeps.drew ?_) | (with_reducible refine Keeps.alloc ?_ _) | (with_reducible refine Keeps.setCell ?_ ?_ _) | (with_reducible refine Keeps.trans ?_ (After.keeps _)) | (with_reducible refine Keeps.trans ?_ (by with_reducible assumption)) | go_size)); (first | done | fail)))).keeps hk5; have HS := (HS.keeps (by ((repeat' (first | (with_reducible exact Keeps.refl _) | (with_reducible assumption) | (with_reducible refine Keeps.drewN ?_ _) | (with_reducible refine Keeps.drew ?_) | (with_reducible refine Keeps.alloc ?_ _) | (with_reducible refine Keeps.setCell ?_ ?_ _) | (with_reducible refine Keeps.trans ?_ (After.keeps _)) | (with_reducible refine Keeps.trans ?_ (by with_reducible assumption)) | go_size)); (first | done | fail)))).keeps hk5; have HQ := (HQ.keeps (by ((repeat' (first | (with_reducible exact Keeps.refl _) | (with_reducible assumption) | (with_reducible refine Keeps.drewN ?_ _) | (with_reducible refine Keeps.drew ?_) | (with_reducible refine Keeps.alloc ?_ _) | (with_reducible refine Keeps.setCell ?_ ?_ _) | (with_reducible refine Keeps.trans ?_ (After.keeps _)) | (with_reducible refine Keeps.trans ?_ (by with_reducible assumption)) | go_size)); (first | done | fail)))).keeps hk5; have M := (M.keeps (by ((repeat' (first | (with_reducible exact Keeps.refl _) | (with_reducible assumption) | (with_reducible refine Keeps.drewN ?_ _) | (with_reducible refine Keeps.drew ?_) | (with_reducible refine Keeps.alloc ?_ _) | (with_reducible refine Keeps.setCell ?_ ?_ _) | (with_reducible refine Keeps.trans ?_ (After.keeps _)) | (with_reducible refine Keeps.trans ?_ (by with_reducible assumption)) | go_size)); (first | done | fail)))).keeps hk5; have hu3 := hu3.trans (Upd.of_keeps ((Keeps.drew (Keeps.refl W1)).trans hk5)))
        | (go_at_call 106; refine (rmcas_eq M hd _ HO.out hcc).mono ?_; rintro e w' ⟨rfl, hu2, M⟩; have HT := HT.upd hu2 (by simp only [List.mem_cons, List.not_mem_nil, or_false, not_or]; (repeat' apply And.intro) <;> assumption); have HS := HS.upd hu2 (by simp only [List.mem_cons, List.not_mem_nil, or_false, not_or]; (repeat' apply And.intro) <;> assumption); have HQ := HQ.upd hu2 (by simp only [List.mem_cons, List.not_mem_nil, or_false, not_or]; (repeat' apply And.intro) <;> assumption); have hu3 := hu3.trans hu2; have FX_ := (HT).facts; simp only [blockFacts, listFacts, cellsAt, Nat.reduceAdd, and_true, true_and, and_assoc] at FX_))
    go_wp2
    go_ret
    have hUT : Upd [T] w' ((w'.setCell ⟨T, 4, none⟩ (.bool true)).setCell ⟨T, 2, none⟩ (.int .i64 ((k : Int) - 1))) := ((Upd.refl _ _).setCell (.inl (by simp)) _).setCell (.inl (by simp)) _
    exact ⟨rfl, ((hu0.mono (by simp)).trans (hu3.mono (by simp))).trans (hUT.mono (by simp)), by (apply Has.congr; (focus ((repeat (first | (with_reducible assumption) | (with_reducible exact Has.new _ _ _) | (with_reducible exact Has.new1 _ _ _ _) | (with_reducible exact Has.new2 _ _ _ _ _) | (with_reducible refine Has.newAt ?_; (simp; done)) | (with_reducible apply Has.set) | (with_reducible apply Has.far; (case hn => first | assumption | (simp; done) | (intro e_; simp at e_; omega))) | (with_reducible apply Has.alloc) | (with_reducible apply Has.drewN) | (with_reducible apply Has.drew) | (with_reducible refine Has.keeps ?_ (by with_reducible assumption)))))); (first | rfl | (simp; done))), M.upd hUT (by simpa using Ne.symm nTg) (by simpa using Ne.symm nTb)⟩
  · rw [if_neg he, decide_eq_false he]
    have hne : (l.getD hd 0 != o) = true := by simpa using he
    clear he
    generalize l.getD hd 0 = lw at *
    have HT := hT
    have HS := hS
    have KA := Keeps.refl w
    have FX_ := (hT).facts; simp only [blockFacts, listFacts, cellsAt, Nat.reduceAdd, and_true, true_and, and_assoc] at FX_
    have FX_ := (hS).facts; simp only [blockFacts, listFacts, cellsAt, Nat.reduceAdd, and_true, true_and, and_assoc, rstackOf] at FX_
    go_enter Tryz.func65, Tryz.ntmps65
    go_wp2
    go_quiet (fail)
    go_wp2
    generalize hW9 : w.drewN _ = W1
    have hu0 : Upd [] w W1 := by rw [← hW9]; (repeat (first | (with_reducible exact Upd.refl _ _) | (with_reducible assumption) | (with_reducible refine Upd.setCell ?_ (by first | (left; simp; done) | (right; go_size)) _) | (with_reducible refine Upd.alloc ?_ _) | (with_reducible refine Upd.drewN ?_ _) | (with_reducible refine Upd.drew ?_)))
    clear hW9
    have HT := HT.upd hu0 (by simp)
    have HS := HS.upd hu0 (by simp)
    have HQ := HQ.upd hu0 (by simp)
    have M := M.upd hu0 (by simp) (by simp)
    have hu3 := Upd.refl [g, b] W1
    go_region_held3 (fun y => (((y.cell? ⟨S, 0, none⟩ = some (.pointer (some ⟨g, 0, none⟩)) ∧ y.cell? ⟨S, 1, none⟩ = some (.int .i64 hd)) ∧ y.cell? ⟨T, 3, none⟩ = some (.int .u64 o)) ∧ y.cell? ⟨T, 1, none⟩ = some (.slice (some ⟨b0, 0, none⟩) k cap)) ∧ y.cell? ⟨b0, 0, none⟩ = some (.int .i64 q0)) (((repeat' (with_reducible apply And.intro)) <;> (apply Has.cellv; (focus ((repeat (first | (with_reducible assumption) | (with_reducible exact Has.new _ _ _) | (with_reducible exact Has.new1 _ _ _ _) | (with_reducible exact Has.new2 _ _ _ _ _) | (with_reducible refine Has.newAt ?_; (simp; done)) | (with_reducible apply Has.set) | (with_reducible apply Has.far; (case hn => first | assumption | (simp; done) | (intro e_; simp at e_; omega))) | (with_reducible apply Has.alloc) | (with_reducible apply Has.drewN) | (with_reducible apply Has.drew) | (with_reducible refine Has.keeps ?_ (by with_reducible assumption)))))); (first | (with_reducible assumption) | rfl | (simp; done) | fail))))
      (first
        | (go_at_call 108; refine (rnextW_c _ _ _ o0 o1).mono ?_; rintro e w' ⟨rfl, hk5⟩; have HT := (HT.keeps (by ((repeat' (first | (with_reducible exact Keeps.refl _) | (with_reducible assumption) | (with_reducible refine Keeps.drewN ?_ _) | (with_reducible refine Keeps.drew ?_) | (with_reducible refine Keeps.alloc ?_ _) | (with_reducible refine Keeps.setCell ?_ ?_ _) | (with_reducible refine Keeps.trans ?_ (After.keeps _)) | (with_reducible refine Keeps.trans ?_ (by with_reducible assumption)) | go_size)); (first | done | fail)))).keeps hk5; have HS := (HS.keeps (by ((repeat' (first | (with_reducible exact Keeps.refl _) | (with_reducible assumption) | (with_reducible refine Keeps.drewN ?_ _) | (with_reducible refine Keeps.drew ?_) | (with_reducible refine Keeps.alloc ?_ _) | (with_reducible refine Keeps.setCell ?_ ?_ _) | (with_reducible refine Keeps.trans ?_ (After.keeps _)) | (with_reducible refine Keeps.trans ?_ (by with_reducible assumption)) | go_size)); (first | done | fail)))).keeps hk5; have HQ := (HQ.keeps (by ((repeat' (first | (with_reducible exact Keeps.refl _) | (with_reducible assumption) | (with_reducible refine Keeps.drewN ?_ _) | (with_reducible refine Keeps.drew ?_) | (with_reducible refine Keeps.alloc ?_ _) | (with_reducible refine Keeps.setCell ?_ ?_ _) | (with_reducible refine Keeps.trans ?_ (After.keeps _)) | (with_reducible refine Keeps.trans ?_ (by with_reducible assumption)) | go_size)); (first | done | fail)))).keeps hk5; have M := (M.keeps (by ((repeat' (first | (with_reducible exact Keeps.refl _) | (with_reducible assumption) | (with_reducible refine Keeps.drewN ?_ _) | (with_reducible refine Keeps.drew ?_) | (with_reducible refine Keeps.alloc ?_ _) | (with_reducible refine Keeps.setCell ?_ ?_ _) | (with_reducible refine Keeps.trans ?_ (After.keeps _)) | (with_reducible refine Keeps.trans ?_ (by with_reducible assumption)) | go_size)); (first | done | fail)))).keeps hk5; have hu3 := hu3.trans (Upd.of_keeps ((Keeps.drew (Keeps.refl W1)).trans hk5)))
        | (go_at_call 106; refine (rmcas_ne M hd _ _ HO.out hcc hne).mono ?_; rintro e w' ⟨rfl, hu2, M⟩; have HT := HT.upd hu2 (by simp only [List.mem_cons, List.not_mem_nil, or_false, not_or]; (repeat' apply And.intro) <;> assumption); have HS := HS.upd hu2 (by simp only [List.mem_cons, List.not_mem_nil, or_false, not_or]; (repeat' apply And.intro) <;> assumption); have HQ := HQ.upd hu2 (by simp only [List.mem_cons, List.not_mem_nil, or_false, not_or]; (repeat' apply And.intro) <;> assumption); have hu3 := hu3.trans hu2; have FX_ := (HT).facts; simp only [blockFacts, listFacts, cellsAt, Nat.reduceAdd, and_true, true_and, and_assoc] at FX_))
    go_wp2
    go_ret
    have hUT : Upd [T] w' ((w'.setCell ⟨T, 4, none⟩ (.bool false)).setCell ⟨T, 2, none⟩ (.int .i64 ((k : Int) - 1))) := ((Upd.refl _ _).setCell (.inl (by simp)) _).setCell (.inl (by simp)) _
    exact ⟨rfl, ((hu0.mono (by simp)).trans (hu3.mono (by simp))).trans (hUT.mono (by simp)), by (apply Has.congr; (focus ((repeat (first | (with_reducible assumption) | (with_reducible exact Has.new _ _ _) | (with_reducible exact Has.new1 _ _ _ _) | (with_reducible exact Has.new2 _ _ _ _ _) | (with_reducible refine Has.newAt ?_; (simp; done)) | (with_reducible apply Has.set) | (with_reducible apply Has.far; (case hn => first | assumption | (simp; done) | (intro e_; simp at e_; omega))) | (with_reducible apply Has.alloc) | (with_reducible apply Has.drewN) | (with_reducible apply Has.drew) | (with_reducible refine Has.keeps ?_ (by with_reducible assumption)))))); (first | rfl | (simp; done))), M.upd hUT (by simpa using Ne.symm nTg) (by simpa using Ne.symm nTb)⟩
/-- An access that stores a link of the list's own. -/
theorem rpush_link {i q : Nat} {z z2 : Int} {b0 : Nat} {cur : Array Value} (hT : Has w T (rpushOf S (.slice (some ⟨b0, 0, none⟩) k cap) i o false) 133) (hS : Has w S (rstackOf g hd lk n) 136) (M : RMem w g b N l cc) (L : StOk hd lk n N l) (hi : i + 1 < k) (hk2 : k ≤ 1000000) (hcc : cc < 4611686018427387903)
    (hQ : Has w b0 cur 3) (hz : cur[i]? = some (.int .i64 z)) (hz2 : cur[i + 1]? = some (.int .i64 z2)) (z0 : 0 ≤ z) (z1 : z < n) (y0 : 0 ≤ z2) (y1 : z2 < n) (hq : (lk : Int) + z = q) :
    Calls Tryz.prog 65 #[.pointer (some ⟨T, 0, none⟩)] w fun e w' => e = .returned (.bool true) ∧ Upd [T, g, b] w w' ∧ Has w' T (rpushOf S (.slice (some ⟨b0, 0, none⟩) k cap) ((i : Int) + 1) o false) 133 ∧ RMem w' g b N (l.set q (z2 + 1)) (cc + 1) := by
  have hl1 := L.lk1
  have hl2 := L.len
  have hl3 := L.small
  have hl4 := L.n1
  have nTg : T ≠ g := hT.ne M.hg (by decide)
  have nTb : T ≠ b := hT.ne M.hb (by decide)
  have nTS : T ≠ S := hT.ne hS (by decide)
  have nST := Ne.symm nTS
  have nSg : S ≠ g := hS.ne M.hg (by decide)
  have nSb : S ≠ b := hS.ne M.hb (by decide)
  have nQg : b0 ≠ g := hQ.ne M.hg (by decide)
  have nQb : b0 ≠ b := hQ.ne M.hb (by decide)
  have nQT : b0 ≠ T := hQ.ne hT (by decide)
  have HO : Hid (l[q]? = some (l.getD q 0)) := Lib.hid (getD_some (by omega))
  have HQq := Lib.hid hq
  have pw := wrapI_ok ((k : Int) - 1) (by omega) (by omega)
  have pw2 := wrapI_ok ((i : Int) + 1) (by omega) (by omega)
  have pw3 := wrapI_ok ((lk : Int) + z) (by omega) (by omega)
  have pw4 := wrapI_ok (z2 + 1) (by omega) (by omega)
  have pw5 := wrapW_ok (z2 + 1) (by omega) (by omega)
  have nl : (i : Int) < (k : Int) - 1 := by omega
  have i0 : (0 : Int) ≤ (i : Int) := by omega
  have i1 : (i : Int) < (k : Int) := by omega
  have i2 : (0 : Int) ≤ (i : Int) + 1 := by omega
  have i3 : (i : Int) + 1 < (k : Int) := by omega
  have i4 : ((i : Int) + 1).toNat = i + 1 := by omega
  have HT := hT
  have HS := hS
  have HQ := hQ
  clear hq
  have FX_ := (hT).facts; simp only [blockFacts, listFacts, cellsAt, Nat.reduceAdd, and_true, true_and, and_assoc] at FX_
  have FX_ := (hS).facts; simp only [blockFacts, listFacts, cellsAt, Nat.reduceAdd, and_true, true_and, and_assoc, rstackOf] at FX_
  go_enter Tryz.func65, Tryz.ntmps65
  go_wp2
  go_quiet (fail)
  go_wp2
  generalize hW9 : w.drewN _ = W1
  have hu0 : Upd [] w W1 := by rw [← hW9]; (repeat (first | (with_reducible exact Upd.refl _ _) | (with_reducible assumption) | (with_reducible refine Upd.setCell ?_ (by first | (left; simp; done) | (right; go_size)) _) | (with_reducible refine Upd.alloc ?_ _) | (with_reducible refine Upd.drewN ?_ _) | (with_reducible refine Upd.drew ?_)))
  clear hW9
  have HT := HT.upd hu0 (by simp)
  have HS := HS.upd hu0 (by simp)
  have HQ := HQ.upd hu0 (by simp)
  have M := M.upd hu0 (by simp) (by simp)
  go_region_held3 (fun y => ((((y.cell? ⟨S, 0, none⟩ = some (.pointer (some ⟨g, 0, none⟩)) ∧ y.cell? ⟨S, 2, none⟩ = some (.int .i64 lk)) ∧ y.cell? ⟨T, 1, none⟩ = some (.slice (some ⟨b0, 0, none⟩) k cap)) ∧ y.cell? ⟨T, 2, none⟩ = some (.int .i64 i)) ∧ y.cell? ⟨b0, i, none⟩ = some (.int .i64 z)) ∧ y.cell? ⟨b0, i + 1, none⟩ = some (.int .i64 z2)) (((repeat' (with_reducible apply And.intro)) <;> (apply Has.cellv; (focus ((repeat (first | (with_reducible assumption) | (with_reducible exact Has.new _ _ _) | (with_reducible exact Has.new1 _ _ _ _) | (with_reducible exact Has.new2 _ _ _ _ _) | (with_reducible refine Has.newAt ?_; (simp; done)) | (with_reducible apply Has.set) | (with_reducible apply Has.far; (case hn => first | assumption | (simp; done) | (intro e_; simp at e_; omega))) | (with_reducible apply Has.alloc) | (with_reducible apply Has.drewN) | (with_reducible apply Has.drew) | (with_reducible refine Has.keeps ?_ (by with_reducible assumption)))))); (first | (with_reducible assumption) | rfl | (simp; done) | fail))))
    ((go_at_call 104; rw [HQq.out]; refine (rmstore (M.keeps (by ((repeat' (first | (with_reducible exact Keeps.refl _) | (with_reducible assumption) | (with_reducible refine Keeps.drewN ?_ _) | (with_reducible refine Keeps.drew ?_) | (with_reducible refine Keeps.alloc ?_ _) | (with_reducible refine Keeps.setCell ?_ ?_ _) | (with_reducible refine Keeps.trans ?_ (After.keeps _)) | (with_reducible refine Keeps.trans ?_ (by with_reducible assumption)) | go_size)); (first | done | fail)))) q _ HO.out hcc).mono ?_; rintro e w' ⟨rfl, hu2, M2⟩; have HT := (HT.keeps (by ((repeat' (first | (with_reducible exact Keeps.refl _) | (with_reducible assumption) | (with_reducible refine Keeps.drewN ?_ _) | (with_reducible refine Keeps.drew ?_) | (with_reducible refine Keeps.alloc ?_ _) | (with_reducible refine Keeps.setCell ?_ ?_ _) | (with_reducible refine Keeps.trans ?_ (After.keeps _)) | (with_reducible refine Keeps.trans ?_ (by with_reducible assumption)) | go_size)); (first | done | fail)))).upd hu2 (by simp only [List.mem_cons, List.not_mem_nil, or_false, not_or]; (repeat' apply And.intro) <;> assumption); have HS := (HS.keeps (by ((repeat' (first | (with_reducible exact Keeps.refl _) | (with_reducible assumption) | (with_reducible refine Keeps.drewN ?_ _) | (with_reducible refine Keeps.drew ?_) | (with_reducible refine Keeps.alloc ?_ _) | (with_reducible refine Keeps.setCell ?_ ?_ _) | (with_reducible refine Keeps.trans ?_ (After.keeps _)) | (with_reducible refine Keeps.trans ?_ (by with_reducible assumption)) | go_size)); (first | done | fail)))).upd hu2 (by simp only [List.mem_cons, List.not_mem_nil, or_false, not_or]; (repeat' apply And.intro) <;> assumption); have HQ := (HQ.keeps (by ((repeat' (first | (with_reducible exact Keeps.refl _) | (with_reducible assumption) | (with_reducible refine Keeps.drewN ?_ _) | (with_reducible refine Keeps.drew ?_) | (with_reducible refine Keeps.alloc ?_ _) | (with_reducible refine Keeps.setCell ?_ ?_ _) | (with_reducible refine Keeps.trans ?_ (After.keeps _)) | (with_reducible refine Keeps.trans ?_ (by with_reducible assumption)) | go_size)); (first | done | fail)))).upd hu2 (by simp only [List.mem_cons, List.not_mem_nil, or_false, not_or]; (repeat' apply And.intro) <;> assumption); have hu3 := (Upd.of_keeps (S := [g, b]) (Keeps.drew (Keeps.refl W1))).trans hu2; have FX_ := (HT).facts; simp only [blockFacts, listFacts, cellsAt, Nat.reduceAdd, and_true, true_and, and_assoc] at FX_))
  go_wp2
  go_ret
  have hUT : Upd [T] w' (w'.setCell ⟨T, 2, none⟩ (.int .i64 ((i : Int) + 1))) := (Upd.refl _ _).setCell (.inl (by simp)) _
  exact ⟨rfl, ((hu0.mono (by simp)).trans (hu3.mono (by simp))).trans (hUT.mono (by simp)), by (apply Has.congr; (focus ((repeat (first | (with_reducible assumption) | (with_reducible exact Has.new _ _ _) | (with_reducible exact Has.new1 _ _ _ _) | (with_reducible exact Has.new2 _ _ _ _ _) | (with_reducible refine Has.newAt ?_; (simp; done)) | (with_reducible apply Has.set) | (with_reducible apply Has.far; (case hn => first | assumption | (simp; done) | (intro e_; simp at e_; omega))) | (with_reducible apply Has.alloc) | (with_reducible apply Has.drewN) | (with_reducible apply Has.drew) | (with_reducible refine Has.keeps ?_ (by with_reducible assumption)))))); (first | rfl | (simp; done))), M2.upd hUT (by simpa using Ne.symm nTg) (by simpa using Ne.symm nTb)⟩
/-- The access that stores the last item's link. -/
theorem rpush_last {i q : Nat} {z : Int} {b0 : Nat} {cur : Array Value} (hT : Has w T (rpushOf S (.slice (some ⟨b0, 0, none⟩) k cap) k o false) 133) (hS : Has w S (rstackOf g hd lk n) 136) (M : RMem w g b N l cc) (L : StOk hd lk n N l) (hi : i + 1 = k) (o0 : 0 ≤ o) (o1 : o < 18446744073709551616) (hk2 : k ≤ 1000000) (hcc : cc < 4611686018427387903)
    (hQ : Has w b0 cur 3) (hz : cur[i]? = some (.int .i64 z)) (z0 : 0 ≤ z) (z1 : z < n) (hq : (lk : Int) + z = q) :
    Calls Tryz.prog 65 #[.pointer (some ⟨T, 0, none⟩)] w fun e w' => e = .returned (.bool true) ∧ Upd [T, g, b] w w' ∧ Has w' T (rpushOf S (.slice (some ⟨b0, 0, none⟩) k cap) ((k : Int) + 1) o false) 133 ∧ RMem w' g b N (l.set q (topI n o + 1)) (cc + 1) := by
  have hl1 := L.lk1
  have hl2 := L.len
  have hl3 := L.small
  have hl4 := L.n1
  have nTg : T ≠ g := hT.ne M.hg (by decide)
  have nTb : T ≠ b := hT.ne M.hb (by decide)
  have nTS : T ≠ S := hT.ne hS (by decide)
  have nST := Ne.symm nTS
  have nSg : S ≠ g := hS.ne M.hg (by decide)
  have nSb : S ≠ b := hS.ne M.hb (by decide)
  have nQg : b0 ≠ g := hQ.ne M.hg (by decide)
  have nQb : b0 ≠ b := hQ.ne M.hb (by decide)
  have nQT : b0 ≠ T := hQ.ne hT (by decide)
  have HO : Hid (l[q]? = some (l.getD q 0)) := Lib.hid (getD_some (by omega))
  have HQq := Lib.hid hq
  obtain ⟨tp, htp⟩ : ∃ tp, topI n o = tp := ⟨_, rfl⟩
  have tb := topI_bd n o
  rw [htp] at tb
  obtain ⟨tb0, tb1⟩ := tb
  have HTP := Lib.hid htp
  rw [htp]
  clear htp
  have pk : (k : Int) - 1 = i := by omega
  have pw := wrapI_ok ((k : Int) - 1) (by omega) (by omega)
  have pwi := wrapI_ok (i : Int) (by omega) (by omega)
  have pw2 := wrapI_ok ((k : Int) + 1) (by omega) (by omega)
  have pw3 := wrapI_ok ((lk : Int) + z) (by omega) (by omega)
  have pw4 := wrapI_ok (tp + 1) (by omega) (by omega)
  have pw5 := wrapW_ok (tp + 1) (by omega) (by omega)
  have nl : ¬ ((k : Int) < (i : Int)) := by omega
  have n2 : ((k : Int) == (i : Int)) = false := by rw [beq_eq_false_iff_ne]; omega
  have n4 : ¬ ((k : Int) = (i : Int)) := by omega
  have n5 : ¬ (k = i) := by omega
  have i0 : (0 : Int) ≤ (i : Int) := by omega
  have i1 : (i : Int) < (k : Int) := by omega
  clear hi
  have HT := hT
  have HS := hS
  have HQ := hQ
  clear hq
  have FX_ := (hT).facts; simp only [blockFacts, listFacts, cellsAt, Nat.reduceAdd, and_true, true_and, and_assoc] at FX_
  have FX_ := (hS).facts; simp only [blockFacts, listFacts, cellsAt, Nat.reduceAdd, and_true, true_and, and_assoc, rstackOf] at FX_
  go_enter Tryz.func65, Tryz.ntmps65
  go_wp2
  go_quiet (fail)
  go_wp2
  generalize hW9 : w.drewN _ = W1
  have hu0 : Upd [] w W1 := by rw [← hW9]; (repeat (first | (with_reducible exact Upd.refl _ _) | (with_reducible assumption) | (with_reducible refine Upd.setCell ?_ (by first | (left; simp; done) | (right; go_size)) _) | (with_reducible refine Upd.alloc ?_ _) | (with_reducible refine Upd.drewN ?_ _) | (with_reducible refine Upd.drew ?_)))
  clear hW9
  have HT := HT.upd hu0 (by simp)
  have HS := HS.upd hu0 (by simp)
  have HQ := HQ.upd hu0 (by simp)
  have M := M.upd hu0 (by simp) (by simp)
  go_region_held3 (fun y => (((y.cell? ⟨S, 0, none⟩ = some (.pointer (some ⟨g, 0, none⟩)) ∧ y.cell? ⟨S, 2, none⟩ = some (.int .i64 lk)) ∧ y.cell? ⟨T, 1, none⟩ = some (.slice (some ⟨b0, 0, none⟩) k cap)) ∧ y.cell? ⟨T, 3, none⟩ = some (.int .u64 o)) ∧ y.cell? ⟨b0, i, none⟩ = some (.int .i64 z)) (((repeat' (with_reducible apply And.intro)) <;> (apply Has.cellv; (focus ((repeat (first | (with_reducible assumption) | (with_reducible exact Has.new _ _ _) | (with_reducible exact Has.new1 _ _ _ _) | (with_reducible exact Has.new2 _ _ _ _ _) | (with_reducible refine Has.newAt ?_; (simp; done)) | (with_reducible apply Has.set) | (with_reducible apply Has.far; (case hn => first | assumption | (simp; done) | (intro e_; simp at e_; omega))) | (with_reducible apply Has.alloc) | (with_reducible apply Has.drewN) | (with_reducible apply Has.drew) | (with_reducible refine Has.keeps ?_ (by with_reducible assumption)))))); (first | (with_reducible assumption) | rfl | (simp; done) | fail))))
    (first
      | (go_at_call 67; refine (rtop_c _ (HS.keeps (by ((repeat' (first | (with_reducible exact Keeps.refl _) | (with_reducible assumption) | (with_reducible refine Keeps.drewN ?_ _) | (with_reducible refine Keeps.drew ?_) | (with_reducible refine Keeps.alloc ?_ _) | (with_reducible refine Keeps.setCell ?_ ?_ _) | (with_reducible refine Keeps.trans ?_ (After.keeps _)) | (with_reducible refine Keeps.trans ?_ (by with_reducible assumption)) | go_size)); (first | done | fail)))) o0 o1).mono ?_; rintro e w' ⟨rfl, hk5⟩; rw [HTP.out]; have HT := (HT.keeps (by ((repeat' (first | (with_reducible exact Keeps.refl _) | (with_reducible assumption) | (with_reducible refine Keeps.drewN ?_ _) | (with_reducible refine Keeps.drew ?_) | (with_reducible refine Keeps.alloc ?_ _) | (with_reducible refine Keeps.setCell ?_ ?_ _) | (with_reducible refine Keeps.trans ?_ (After.keeps _)) | (with_reducible refine Keeps.trans ?_ (by with_reducible assumption)) | go_size)); (first | done | fail)))).keeps hk5; have HS := (HS.keeps (by ((repeat' (first | (with_reducible exact Keeps.refl _) | (with_reducible assumption) | (with_reducible refine Keeps.drewN ?_ _) | (with_reducible refine Keeps.drew ?_) | (with_reducible refine Keeps.alloc ?_ _) | (with_reducible refine Keeps.setCell ?_ ?_ _) | (with_reducible refine Keeps.trans ?_ (After.keeps _)) | (with_reducible refine Keeps.trans ?_ (by with_reducible assumption)) | go_size)); (first | done | fail)))).keeps hk5; have HQ := (HQ.keeps (by ((repeat' (first | (with_reducible exact Keeps.refl _) | (with_reducible assumption) | (with_reducible refine Keeps.drewN ?_ _) | (with_reducible refine Keeps.drew ?_) | (with_reducible refine Keeps.alloc ?_ _) | (with_reducible refine Keeps.setCell ?_ ?_ _) | (with_reducible refine Keeps.trans ?_ (After.keeps _)) | (with_reducible refine Keeps.trans ?_ (by with_reducible assumption)) | go_size)); (first | done | fail)))).keeps hk5; have M := (M.keeps (by ((repeat' (first | (with_reducible exact Keeps.refl _) | (with_reducible assumption) | (with_reducible refine Keeps.drewN ?_ _) | (with_reducible refine Keeps.drew ?_) | (with_reducible refine Keeps.alloc ?_ _) | (with_reducible refine Keeps.setCell ?_ ?_ _) | (with_reducible refine Keeps.trans ?_ (After.keeps _)) | (with_reducible refine Keeps.trans ?_ (by with_reducible assumption)) | go_size)); (first | done | fail)))).keeps hk5; have hu3 := Upd.of_keeps (S := [g, b]) ((Keeps.drew (Keeps.refl W1)).trans hk5))
      | (go_at_call 104; rw [HQq.out]; refine (rmstore M q _ HO.out hcc).mono ?_; rintro e w' ⟨rfl, hu2, M2⟩; have HT := HT.upd hu2 (by simp only [List.mem_cons, List.not_mem_nil, or_false, not_or]; (repeat' apply And.intro) <;> assumption); have HS := HS.upd hu2 (by simp only [List.mem_cons, List.not_mem_nil, or_false, not_or]; (repeat' apply And.intro) <;> assumption); have HQ := HQ.upd hu2 (by simp only [List.mem_cons, List.not_mem_nil, or_false, not_or]; (repeat' apply And.intro) <;> assumption); have hu3 := hu3.trans hu2; have FX_ := (HT).facts; simp only [blockFacts, listFacts, cellsAt, Nat.reduceAdd, and_true, true_and, and_assoc] at FX_))
  go_wp2
  go_ret
  have hUT : Upd [T] w' (w'.setCell ⟨T, 2, none⟩ (.int .i64 ((k : Int) + 1))) := (Upd.refl _ _).setCell (.inl (by simp)) _
  exact ⟨rfl, ((hu0.mono (by simp)).trans (hu3.mono (by simp))).trans (hUT.mono (by simp)), by (apply Has.congr; (focus ((repeat (first | (with_reducible assumption) | (with_reducible exact Has.new _ _ _) | (with_reducible exact Has.new1 _ _ _ _) | (with_reducible exact Has.new2 _ _ _ _ _) | (with_reducible refine Has.newAt ?_; (simp; done)) | (with_reducible apply Has.set) | (with_reducible apply Has.far; (case hn => first | assumption | (simp; done) | (intro e_; simp at e_; omega))) | (with_reducible apply Has.alloc) | (with_reducible apply Has.drewN) | (with_reducible apply Has.drew) | (with_reducible refine Has.keeps ?_ (by with_reducible assumption)))))); (first | rfl | (simp; done))), M2.upd hUT (by simpa using Ne.symm nTg) (by simpa using Ne.symm nTb)⟩
end
end Go.Proofs.YtaecapjicphdkaaGreat
