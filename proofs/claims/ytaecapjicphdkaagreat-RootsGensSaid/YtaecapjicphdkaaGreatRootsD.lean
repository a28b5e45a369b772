/- Create, Look, End (layer 11): each access, walked. -/
import Derived.Test.YtaecapjicphdkaaGreatRootsC
import Derived.Deep.RegionHeld3
import Derived.Deep.RegionLaw
import Derived.LoopTactic
import Derived.Deep.DeepCutAuto
import Derived.Deep.QuietTactic
import Derived.BigQuiet
namespace Go.Proofs.YtaecapjicphdkaaGreat
set_option linter.unusedVariables false
set_option linter.unusedSimpArgs false
open Go Go.RowKit
set_option maxRecDepth 100000
set_option maxHeartbeats 1000000

abbrev rootA (o : Int) : Array Value := #[.int .i64 (o / 4294967296), .int .i64 (o / 65536 % 65536), .int .i64 (o / 4096 % 16), .int .i64 (o % 4096)]
section
variable {w : World} {R m bb S N B : Nat} {l : List Int} {cc : Int} {x : Acc} {p k d sn cz b : Int} {y pg q : Nat} {c cls slot point g mk cl ofs code o : Int}
theorem crLoad_c (hx : Has w y (createOf .nilFunc c R cls pg y slot point g mk cl ofs code) 140) (hR : Has w R (rootsOf m p k d sn cz b S) 109) (M : Mem w m bb N l cc x) (hq : crootI p k d sn cz b slot = q) (ho : l[q]? = some o) (o0 : 0 ≤ o) (o1 : o < 18446744073709551616) (hcc : cc < 4611686018427387903) :
    Calls Tryz.prog 117 #[.pointer (some ⟨y, 0, none⟩)] w fun e w' => e = .returned (.tuple #[]) ∧ Upd [y, m, bb] w w' ∧ Has w' y (createOf (bound 137 y) c R cls pg y slot point (genN (o / 4294967296)) 1 cls 0 code) 140 ∧ ∃ x', Mem w' m bb N l (cc + 1) x' := by
  have HQ := Lib.hid hq
  have HO := Lib.hid ho
  clear hq ho
  have nym : m ≠ y := (Has.ne hx M.hg (by decide)).symm
  have nyb : bb ≠ y := (Has.ne hx M.hb (by decide)).symm
  have nyS : y ∉ [m, bb] := by simp; exact ⟨nym.symm, nyb.symm⟩
  have hsz := hx.lt
  have ltM0 := M.lt
  have ny0 : y ≠ w.heap.size := by omega
  have hx0 := hx
  have FX_ := (hx).facts; simp only [blockFacts, listFacts, cellsAt, Nat.reduceAdd, and_true, true_and, and_assoc, createOf] at FX_
  go_enter Tryz.func117, Tryz.ntmps117
  go_upto_region 0 with fail
  go_cut [3] (fun y3 wc => ∃ r3 : Nat, y3 = .pointer (some ⟨r3, 0, none⟩) ∧ w.heap.size ≤ r3 ∧ Has wc r3 (rootA o) 45 ∧ Upd [m, bb] w wc ∧ ∃ x', Mem wc m bb N l (cc + 1) x')
  case first =>
    go_region_held3 (fun u => u.cell? ⟨y, 5, none⟩ = some (.pointer (some ⟨R, 0, none⟩)) ∧ u.cell? ⟨y, 8, none⟩ = some (.int .i64 slot)) (((repeat' (with_reducible apply And.intro)) <;> (apply Has.cellv; (focus ((repeat (first | (with_reducible assumption) | (with_reducible exact Has.new _ _ _) | (with_reducible exact Has.new1 _ _ _ _) | (with_reducible exact Has.new2 _ _ _ _ _) | (with_reducible refine Has.newAt ?_; (simp; done)) | (with_reducible apply Has.set) | (with_reducible apply Has.far; (case hn => first | assumption | (simp; done) | (intro e_; simp at e_; omega))) | (with_reducible apply Has.alloc) | (with_reducible apply Has.drewN) | (with_reducible apply Has.drew) | (with_reducible refine Has.keeps ?_ (by with_reducible assumption)))))); (first | (with_reducible assumption) | rfl | (simp; done) | fail))))
      ((go_at_call 77; refine (rsload_c _ (hR.keeps (by ((repeat' (first | (with_reducible exact Keeps.refl _) | (with_reducible assumption) | (with_reducible refine Keeps.drewN ?_ _) | (with_reducible refine Keeps.drew ?_) | (with_reducible refine Keeps.alloc ?_ _) | (with_reducible refine Keeps.setCell ?_ ?_ _) | (with_reducible refine Keeps.trans ?_ (After.keeps _)) | (with_reducible refine Keeps.trans ?_ (by with_reducible assumption)) | go_size)); (first | done | fail)))) (M.keeps (by ((repeat' (first | (with_reducible exact Keeps.refl _) | (with_reducible assumption) | (with_reducible refine Keeps.drewN ?_ _) | (with_reducible refine Keeps.drew ?_) | (with_reducible refine Keeps.alloc ?_ _) | (with_reducible refine Keeps.setCell ?_ ?_ _) | (with_reducible refine Keeps.trans ?_ (After.keeps _)) | (with_reducible refine Keeps.trans ?_ (by with_reducible assumption)) | go_size)); (first | done | fail)))) HQ.out HO.out o0 o1 hcc).mono ?_; rintro e w' ⟨rfl, hu, x', M2⟩; have hx := (hx0.keeps (by ((repeat' (first | (with_reducible exact Keeps.refl _) | (with_reducible assumption) | (with_reducible refine Keeps.drewN ?_ _) | (with_reducible refine Keeps.drew ?_) | (with_reducible refine Keeps.alloc ?_ _) | (with_reducible refine Keeps.setCell ?_ ?_ _) | (with_reducible refine Keeps.trans ?_ (After.keeps _)) | (with_reducible refine Keeps.trans ?_ (by with_reducible assumption)) | go_size)); (first | done | fail)))).upd hu nyS; have U1 : Upd [m, bb] w w' := Upd.trans (by (repeat (first | (with_reducible exact Upd.refl _ _) | (with_reducible assumption) | (with_reducible refine Upd.setCell ?_ (by first | (left; simp; done) | (right; go_size)) _) | (with_reducible refine Upd.alloc ?_ _) | (with_reducible refine Upd.drewN ?_ _) | (with_reducible refine Upd.drew ?_)))) hu; have szu := U1.size; have ny1 : y ≠ w'.heap.size := (by have := hx.lt; omega); have ltM := M2.lt; have FX_ := (hx).facts; simp only [blockFacts, listFacts, cellsAt, Nat.reduceAdd, and_true, true_and, and_assoc, createOf] at FX_; (first | (have HB := Has.upd (Has.drew (Has.new w #[.int .i64 0, .int .i64 0, .int .i64 0, .int .i64 0] 45)) hu (by have := M.lt; simp only [List.mem_cons, List.not_mem_nil, or_false, not_or]; omega); have hBl := HB.lt; have FX_ := (HB).facts; simp only [blockFacts, listFacts, cellsAt, Nat.reduceAdd, and_true, true_and, and_assoc] at FX_) | skip)))
    all_goals go_wp2
    all_goals (go_meet; case rel => exact ⟨_, rfl, (by first | exact Nat.le_refl _ | exact szu | go_size), by (apply Has.congr; (focus ((repeat (first | (with_reducible assumption) | (with_reducible exact Has.new _ _ _) | (with_reducible exact Has.new1 _ _ _ _) | (with_reducible exact Has.new2 _ _ _ _ _) | (with_reducible refine Has.newAt ?_; (simp; done)) | (with_reducible apply Has.set) | (with_reducible apply Has.far; (case hn => first | assumption | (simp; done) | (intro e_; simp at e_; omega))) | (with_reducible apply Has.alloc) | (with_reducible apply Has.drewN) | (with_reducible apply Has.drew) | (with_reducible refine Has.keeps ?_ (by with_reducible assumption)))))); (first | rfl | (simp; done))), by (repeat (first | (with_reducible exact Upd.refl _ _) | (with_reducible assumption) | (with_reducible refine Upd.setCell ?_ (by first | (left; simp; done) | (right; go_size)) _) | (with_reducible refine Upd.alloc ?_ _) | (with_reducible refine Upd.drewN ?_ _) | (with_reducible refine Upd.drew ?_))), _, M2.upd (S := [w.heap.size]) (by (repeat (first | (with_reducible exact Upd.refl _ _) | (with_reducible assumption) | (with_reducible refine Upd.setCell ?_ (by first | (left; simp; done) | (right; go_size)) _) | (with_reducible refine Upd.alloc ?_ _) | (with_reducible refine Upd.drewN ?_ _) | (with_reducible refine Upd.drew ?_)))) (by simp; omega) (by simp; omega)⟩)
  case rest =>
    obtain ⟨r3, rfl, hr3, HB, U1, x', M2⟩ := hcut
    have hx := hx.upd U1 nyS
    have hn3 : y ≠ r3 := by omega
    generalize wc = W2 at *
    have FX_ := (HB).facts; simp only [blockFacts, listFacts, cellsAt, Nat.reduceAdd, and_true, true_and, and_assoc] at FX_
    have FB_ := FX_
    have FX_ := (hx).facts; simp only [blockFacts, listFacts, cellsAt, Nat.reduceAdd, and_true, true_and, and_assoc, createOf] at FX_
    go_wp2_with (first
      | (go_at_call 136; refine (crNext_c _ _ _ _ (Int.ediv_nonneg o0 (by omega)) hx).mono ?_; rintro e w' ⟨rfl, hk⟩; have hx := hx.keeps hk; have U1 := U1.trans (Upd.of_keeps hk); have M2 := M2.keeps hk; have FX_ := (hx).facts; simp only [blockFacts, listFacts, cellsAt, Nat.reduceAdd, and_true, true_and, and_assoc, createOf] at FX_)
      | (go_at_call 41; refine (mgo5_c (st := bound 71 pg) (dn := bound 72 pg) (th := bound 73 y) (c := c) (nx := .nilFunc) (rest := [.pointer (some ⟨R, 0, none⟩), .int .i64 cls, .pointer (some ⟨pg, 0, none⟩), .int .i64 slot, .int .i64 point, .int .i64 (genN (o / 4294967296)), .int .i64 1, .int .i64 cls, .int .i64 0, .int .i64 code]) (T := 140) _ _ (by (apply Has.congr; (focus ((repeat (first | (with_reducible assumption) | (with_reducible exact Has.new _ _ _) | (with_reducible exact Has.new1 _ _ _ _) | (with_reducible exact Has.new2 _ _ _ _ _) | (with_reducible refine Has.newAt ?_; (simp; done)) | (with_reducible apply Has.set) | (with_reducible apply Has.far; (case hn => first | assumption | (simp; done) | (intro e_; simp at e_; omega))) | (with_reducible apply Has.alloc) | (with_reducible apply Has.drewN) | (with_reducible apply Has.drew) | (with_reducible refine Has.keeps ?_ (by with_reducible assumption)))))); (first | rfl | (simp; done))))).mono ?_; rintro e w9 ⟨rfl, hu9, h9⟩))
    go_end0
    exact ⟨rfl, ((U1.mono (fun z hz => List.mem_cons_of_mem _ hz)).trans (Upd.trans (by (repeat (first | (with_reducible exact Upd.refl _ _) | (with_reducible assumption) | (with_reducible refine Upd.setCell ?_ (by first | (left; simp; done) | (right; go_size)) _) | (with_reducible refine Upd.alloc ?_ _) | (with_reducible refine Upd.drewN ?_ _) | (with_reducible refine Upd.drew ?_)))) (hu9.mono (by simp)))), h9, x', M2.upd (Upd.trans (by (repeat (first | (with_reducible exact Upd.refl _ _) | (with_reducible assumption) | (with_reducible refine Upd.setCell ?_ (by first | (left; simp; done) | (right; go_size)) _) | (with_reducible refine Upd.alloc ?_ _) | (with_reducible refine Upd.drewN ?_ _) | (with_reducible refine Upd.drew ?_)))) hu9) (by simp; exact nym) (by simp; exact nyb)⟩
theorem crStore_c (hx : Has w y (createOf .nilFunc c R cls pg y slot point g mk cl ofs code) 140) (hR : Has w R (rootsOf m p k d sn cz b S) 109) (M : Mem w m bb N l cc x) (hq : crootI p k d sn cz b slot = q) (ho : l[q]? = some o) (hcc : cc < 4611686018427387903) :
    Calls Tryz.prog 137 #[.pointer (some ⟨y, 0, none⟩)] w fun e w' => e = .returned (.tuple #[]) ∧ Upd [y, m, bb] w w' ∧ Has w' y (createOf .nilFunc c R cls pg y slot point g mk cl ofs code) 140 ∧ ∃ x', Mem w' m bb N (l.set q (rootI g mk cl ofs)) (cc + 1) x' := by
  have HQ := Lib.hid hq
  have HO := Lib.hid ho
  clear hq ho
  have nym : m ≠ y := (Has.ne hx M.hg (by decide)).symm
  have nyb : bb ≠ y := (Has.ne hx M.hb (by decide)).symm
  have nyS : y ∉ [m, bb] := by simp; exact ⟨nym.symm, nyb.symm⟩
  have nRS : R ∉ [m, bb] := by simp only [List.mem_cons, List.not_mem_nil, or_false, not_or]; exact ⟨Has.ne hR M.hg (by decide), Has.ne hR M.hb (by decide)⟩
  have HK := Keeps.refl w
  have FX_ := (hx).facts; simp only [blockFacts, listFacts, cellsAt, Nat.reduceAdd, and_true, true_and, and_assoc, createOf] at FX_
  go_enter Tryz.func137, Tryz.ntmps137
  go_upto_region 1 with (go_at_call 119; refine (putRoot_c _ _ _ _ _).mono ?_; rintro e w' ⟨rfl, hk⟩; have hx := hx.keeps hk; have hR := hR.keeps hk; have M := M.keeps hk; have HK := HK.trans hk)
  have HK2 := Keeps.refl w'
  go_region_held3 (fun u => ((((((((u.cell? ⟨R, 0, none⟩ = some (.pointer (some ⟨m, 0, none⟩)) ∧ u.cell? ⟨R, 1, none⟩ = some (.int .i64 p)) ∧ u.cell? ⟨R, 2, none⟩ = some (.int .i64 k)) ∧ u.cell? ⟨R, 3, none⟩ = some (.int .i64 d)) ∧ u.cell? ⟨R, 4, none⟩ = some (.int .i64 sn)) ∧ u.cell? ⟨R, 5, none⟩ = some (.int .i64 cz)) ∧ u.cell? ⟨R, 6, none⟩ = some (.int .i64 b)) ∧ u.cell? ⟨y, 5, none⟩ = some (.pointer (some ⟨R, 0, none⟩))) ∧ u.cell? ⟨y, 8, none⟩ = some (.int .i64 slot))) (((repeat' (with_reducible apply And.intro)) <;> (apply Has.cellv; (focus ((repeat (first | (with_reducible assumption) | (with_reducible exact Has.new _ _ _) | (with_reducible exact Has.new1 _ _ _ _) | (with_reducible exact Has.new2 _ _ _ _ _) | (with_reducible refine Has.newAt ?_; (simp; done)) | (with_reducible apply Has.set) | (with_reducible apply Has.far; (case hn => first | assumption | (simp; done) | (intro e_; simp at e_; omega))) | (with_reducible apply Has.alloc) | (with_reducible apply Has.drewN) | (with_reducible apply Has.drew) | (with_reducible refine Has.keeps ?_ (by with_reducible assumption)))))); (first | (with_reducible assumption) | rfl | (simp; done) | fail))))
    (first
      | (go_at_call 47; refine (lcroot_c _ _ _ _ _ _ _ _).mono ?_; rintro e w' ⟨rfl, hk5⟩; rw [HQ.out]; have hx := (hx.keeps (by ((repeat' (first | (with_reducible exact Keeps.refl _) | (with_reducible assumption) | (with_reducible refine Keeps.drewN ?_ _) | (with_reducible refine Keeps.drew ?_) | (with_reducible refine Keeps.alloc ?_ _) | (with_reducible refine Keeps.setCell ?_ ?_ _) | (with_reducible refine Keeps.trans ?_ (After.keeps _)) | (with_reducible refine Keeps.trans ?_ (by with_reducible assumption)) | go_size)); (first | done | fail)))).keeps hk5; have hR := (hR.keeps (by ((repeat' (first | (with_reducible exact Keeps.refl _) | (with_reducible assumption) | (with_reducible refine Keeps.drewN ?_ _) | (with_reducible refine Keeps.drew ?_) | (with_reducible refine Keeps.alloc ?_ _) | (with_reducible refine Keeps.setCell ?_ ?_ _) | (with_reducible refine Keeps.trans ?_ (After.keeps _)) | (with_reducible refine Keeps.trans ?_ (by with_reducible assumption)) | go_size)); (first | done | fail)))).keeps hk5; have HK2 := (HK2.drew).trans hk5)
      | (go_at_call 124; refine (mstore_in (M.keeps HK2) q _ HO.out hcc).mono ?_; rintro e w' ⟨rfl, hu, M2⟩; have hx := hx.upd hu nyS; have hR := hR.upd hu nRS))
  go_end0
  exact ⟨rfl, (Upd.of_keeps (HK.trans HK2)).trans (hu.mono (fun z hz => List.mem_cons_of_mem _ hz)), hx, _, M2⟩
end
end Go.Proofs.YtaecapjicphdkaaGreat
