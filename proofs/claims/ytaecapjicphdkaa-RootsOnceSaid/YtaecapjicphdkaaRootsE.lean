/- Look, End (layer 11): each access, walked. -/
import Derived.Test.YtaecapjicphdkaaRootsD
namespace Go.Proofs.Ytaecapjicphdkaa
set_option linter.unusedVariables false
set_option linter.unusedSimpArgs false
open Go Go.RowKit
set_option maxRecDepth 100000
set_option maxHeartbeats 1000000

def lookOf (nx : Value) (c : Int) (R : Nat) (slot gen code ofs : Int) : Array Value := mach nx c [.pointer (some ⟨R, 0, none⟩), .int .i64 slot, .int .i64 gen, .int .i64 code, .int .i64 ofs]
def endOf (nx : Value) (c : Int) (R : Nat) (slot gen was code chunk point : Int) : Array Value :=
  mach nx c [.pointer (some ⟨R, 0, none⟩), .int .i64 slot, .int .i64 gen, .int .u64 was, .int .i64 (was / 4294967296), .int .i64 (was / 65536 % 65536), .int .i64 (was / 4096 % 16), .int .i64 (was % 4096), .int .i64 code, .int .i64 chunk, .int .i64 point]
def liveW (o gen : Int) : Bool := liveB (o / 4294967296) (o / 65536 % 65536) gen
section
variable {w : World} {R m bb S N B : Nat} {l : List Int} {cc : Int} {x : Acc} {p k d sn cz b : Int} {y pg q : Nat} {c slot gen was chunk point ofs code o : Int}
theorem edLoad_g {nx : Option Nat} {c2 p2 : Int} (hv1 : liveW o gen = true → nx = some 56 ∧ c2 = code ∧ p2 = point) (hv2 : liveW o gen = false → nx = none ∧ c2 = 3 ∧ p2 = c) (hx : Has w y (endOf .nilFunc c R slot gen was code chunk point) 69) (hR : Has w R (rootsOf m p k d sn cz b S) 74) (M : Mem w m bb N l cc x) (hq : crootI p k d sn cz b slot = q) (ho : l[q]? = some o) (o0 : 0 ≤ o) (o1 : o < 18446744073709551616) (hcc : cc < 4611686018427387903) :
    Calls Try.prog 29 #[.pointer (some ⟨y, 0, none⟩)] w fun e w' => e = .returned (.tuple #[]) ∧ Upd [y, m, bb] w w' ∧ Has w' y (endOf (nxt nx y) c R slot gen o c2 chunk p2) 69 ∧ ∃ x', Mem w' m bb N l (cc + 1) x' := by
  have HV1 := Lib.hid hv1
  have HV2 := Lib.hid hv2
  clear hv1 hv2
  have HQ := Lib.hid hq
  have HO := Lib.hid ho
  clear hq ho
  have nym : m ≠ y := (Has.ne hx M.hg (by decide)).symm
  have nyb : bb ≠ y := (Has.ne hx M.hb (by decide)).symm
  have nyS : y ∉ [m, bb] := by simp; exact ⟨nym.symm, nyb.symm⟩
  have hsz := hx.lt
  have ltM0 := M.lt
  have ny0 : y ≠ w.heap.size := by omega
  have hx0 := hx
  have FX_ := (hx).facts; simp only [blockFacts, listFacts, cellsAt, Nat.reduceAdd, and_true, true_and, and_assoc, endOf] at FX_
  go_enter Try.func29, Try.ntmps29
  go_upto_region 0 with fail
  go_cut [] (fun wc => Has wc y (endOf .nilFunc c R slot gen o code chunk point) 69 ∧ Upd [y, m, bb] w wc ∧ ∃ x', Mem wc m bb N l (cc + 1) x')
  case first =>
    go_region_held3 (fun u => u.cell? ⟨y, 5, none⟩ = some (.pointer (some ⟨R, 0, none⟩)) ∧ u.cell? ⟨y, 6, none⟩ = some (.int .i64 slot)) (((repeat' (with_reducible apply And.intro)) <;> (apply Has.cellv; (focus ((repeat (first | (with_reducible assumption) | (with_reducible exact Has.new _ _ _) | (with_reducible exact Has.new1 _ _ _ _) | (with_reducible exact Has.new2 _ _ _ _ _) | (with_reducible refine Has.newAt ?_; (simp; done)) | (with_reducible apply Has.set) | (with_reducible apply Has.far; (case hn => first | assumption | (simp; done) | (intro e_; simp at e_; omega))) | (with_reducible apply Has.alloc) | (with_reducible apply Has.drewN) | (with_reducible apply Has.drew) | (with_reducible refine Has.keeps ?_ (by with_reducible assumption)))))); (first | (with_reducible assumption) | rfl | (simp; done) | fail))))
      ((go_at_call 53; refine (rsload_c _ (hR.keeps (by ((repeat' (first | (with_reducible exact Keeps.refl _) | (with_reducible assumption) | (with_reducible refine Keeps.drewN ?_ _) | (with_reducible refine Keeps.drew ?_) | (with_reducible refine Keeps.alloc ?_ _) | (with_reducible refine Keeps.setCell ?_ ?_ _) | (with_reducible refine Keeps.trans ?_ (After.keeps _)) | (with_reducible refine Keeps.trans ?_ (by with_reducible assumption)) | go_size)); (first | done | fail)))) (M.keeps (by ((repeat' (first | (with_reducible exact Keeps.refl _) | (with_reducible assumption) | (with_reducible refine Keeps.drewN ?_ _) | (with_reducible refine Keeps.drew ?_) | (with_reducible refine Keeps.alloc ?_ _) | (with_reducible refine Keeps.setCell ?_ ?_ _) | (with_reducible refine Keeps.trans ?_ (After.keeps _)) | (with_reducible refine Keeps.trans ?_ (by with_reducible assumption)) | go_size)); (first | done | fail)))) HQ.out HO.out o0 o1 hcc).mono ?_; rintro e w' ⟨rfl, hu, x', M2⟩; have hx := (hx0.keeps (by ((repeat' (first | (with_reducible exact Keeps.refl _) | (with_reducible assumption) | (with_reducible refine Keeps.drewN ?_ _) | (with_reducible refine Keeps.drew ?_) | (with_reducible refine Keeps.alloc ?_ _) | (with_reducible refine Keeps.setCell ?_ ?_ _) | (with_reducible refine Keeps.trans ?_ (After.keeps _)) | (with_reducible refine Keeps.trans ?_ (by with_reducible assumption)) | go_size)); (first | done | fail)))).upd hu nyS; have U1 : Upd [m, bb] w w' := Upd.trans (by (repeat (first | (with_reducible exact Upd.refl _ _) | (with_reducible assumption) | (with_reducible refine Upd.setCell ?_ (by first | (left; simp; done) | (right; go_size)) _) | (with_reducible refine Upd.alloc ?_ _) | (with_reducible refine Upd.drewN ?_ _) | (with_reducible refine Upd.drew ?_)))) hu; have FX_ := (hx).facts; simp only [blockFacts, listFacts, cellsAt, Nat.reduceAdd, and_true, true_and, and_assoc, endOf] at FX_))
    all_goals go_wp2
    all_goals (go_meet; case rel => exact ⟨by (apply Has.congr; (focus ((repeat (first | (with_reducible assumption) | (with_reducible exact Has.new _ _ _) | (with_reducible exact Has.new1 _ _ _ _) | (with_reducible exact Has.new2 _ _ _ _ _) | (with_reducible refine Has.newAt ?_; (simp; done)) | (with_reducible apply Has.set) | (with_reducible apply Has.far; (case hn => first | assumption | (simp; done) | (intro e_; simp at e_; omega))) | (with_reducible apply Has.alloc) | (with_reducible apply Has.drewN) | (with_reducible apply Has.drew) | (with_reducible refine Has.keeps ?_ (by with_reducible assumption)))))); (first | rfl | (simp; done))), (U1.mono (fun z hz => List.mem_cons_of_mem _ hz)).trans (by (repeat (first | (with_reducible exact Upd.refl _ _) | (with_reducible assumption) | (with_reducible refine Upd.setCell ?_ (by first | (left; simp; done) | (right; go_size)) _) | (with_reducible refine Upd.alloc ?_ _) | (with_reducible refine Upd.drewN ?_ _) | (with_reducible refine Upd.drew ?_)))), x', M2.upd (S := [y]) (by (repeat (first | (with_reducible exact Upd.refl _ _) | (with_reducible assumption) | (with_reducible refine Upd.setCell ?_ (by first | (left; simp; done) | (right; go_size)) _) | (with_reducible refine Upd.alloc ?_ _) | (with_reducible refine Upd.drewN ?_ _) | (with_reducible refine Upd.drew ?_)))) (by simp; exact nym) (by simp; exact nyb)⟩)
  case rest =>
    obtain ⟨hx, U1, x', M2⟩ := hcut
    generalize wc = W2 at *
    have HK2 := Keeps.refl W2
    have FX_ := (hx).facts; simp only [blockFacts, listFacts, cellsAt, Nat.reduceAdd, and_true, true_and, and_assoc, endOf] at FX_
    cases hv : liveW o gen with
    | true =>
      have HV := Lib.hid (show liveB (o / 4294967296) (o / 65536 % 65536) gen = true from hv)
      obtain ⟨rfl, rfl, rfl⟩ := HV1.out hv
      clear hv
      go_upto_region 1 with fail
      go_region_held3 (fun u => (((u.cell? ⟨y, 9, none⟩ = some (.int .i64 (o / 4294967296)) ∧ u.cell? ⟨y, 10, none⟩ = some (.int .i64 (o / 65536 % 65536))) ∧ u.cell? ⟨y, 11, none⟩ = some (.int .i64 (o / 4096 % 16))) ∧ u.cell? ⟨y, 12, none⟩ = some (.int .i64 (o % 4096))) ∧ u.cell? ⟨y, 7, none⟩ = some (.int .i64 gen)) (((repeat' (with_reducible apply And.intro)) <;> (apply Has.cellv; (focus ((repeat (first | (with_reducible assumption) | (with_reducible exact Has.new _ _ _) | (with_reducible exact Has.new1 _ _ _ _) | (with_reducible exact Has.new2 _ _ _ _ _) | (with_reducible refine Has.newAt ?_; (simp; done)) | (with_reducible apply Has.set) | (with_reducible apply Has.far; (case hn => first | assumption | (simp; done) | (intro e_; simp at e_; omega))) | (with_reducible apply Has.alloc) | (with_reducible apply Has.drewN) | (with_reducible apply Has.drew) | (with_reducible refine Has.keeps ?_ (by with_reducible assumption)))))); (first | (with_reducible assumption) | rfl | (simp; done) | fail))))
        ((go_at_call 54; refine (live_c _ _ _ _ _ _).mono ?_; rintro e w' ⟨rfl, hk5⟩; rw [HV.out]; have hx := (hx.keeps (by ((repeat' (first | (with_reducible exact Keeps.refl _) | (with_reducible assumption) | (with_reducible refine Keeps.drewN ?_ _) | (with_reducible refine Keeps.drew ?_) | (with_reducible refine Keeps.alloc ?_ _) | (with_reducible refine Keeps.setCell ?_ ?_ _) | (with_reducible refine Keeps.trans ?_ (After.keeps _)) | (with_reducible refine Keeps.trans ?_ (by with_reducible assumption)) | go_size)); (first | done | fail)))).keeps hk5; have HK2 := (HK2.drew).trans hk5))
      go_wp2_with (go_at_call 28; refine (mgo_c _ _ (show Has _ y (mach .nilFunc c _) 69 from hx)).mono ?_; rintro e w9 ⟨rfl, hu9, h9⟩)
      go_end0
      have U2 := U1.trans (Upd.of_keeps HK2)
      have M2 := M2.keeps HK2
      exact ⟨rfl, U2.trans (hu9.mono (by simp)), h9, x', M2.upd hu9 (by simp; exact nym) (by simp; exact nyb)⟩
    | false =>
      have HV := Lib.hid (show liveB (o / 4294967296) (o / 65536 % 65536) gen = false from hv)
      obtain ⟨rfl, rfl, rfl⟩ := HV2.out hv
      clear hv
      go_upto_region 1 with fail
      go_region_held3 (fun u => (((u.cell? ⟨y, 9, none⟩ = some (.int .i64 (o / 4294967296)) ∧ u.cell? ⟨y, 10, none⟩ = some (.int .i64 (o / 65536 % 65536))) ∧ u.cell? ⟨y, 11, none⟩ = some (.int .i64 (o / 4096 % 16))) ∧ u.cell? ⟨y, 12, none⟩ = some (.int .i64 (o % 4096))) ∧ u.cell? ⟨y, 7, none⟩ = some (.int .i64 gen)) (((repeat' (with_reducible apply And.intro)) <;> (apply Has.cellv; (focus ((repeat (first | (with_reducible assumption) | (with_reducible exact Has.new _ _ _) | (with_reducible exact Has.new1 _ _ _ _) | (with_reducible exact Has.new2 _ _ _ _ _) | (with_reducible refine Has.newAt ?_; (simp; done)) | (with_reducible apply Has.set) | (with_reducible apply Has.far; (case hn => first | assumption | (simp; done) | (intro e_; simp at e_; omega))) | (with_reducible apply Has.alloc) | (with_reducible apply Has.drewN) | (with_reducible apply Has.drew) | (with_reducible refine Has.keeps ?_ (by with_reducible assumption)))))); (first | (with_reducible assumption) | rfl | (simp; done) | fail))))
        ((go_at_call 54; refine (live_c _ _ _ _ _ _).mono ?_; rintro e w' ⟨rfl, hk5⟩; rw [HV.out]; have hx := (hx.keeps (by ((repeat' (first | (with_reducible exact Keeps.refl _) | (with_reducible assumption) | (with_reducible refine Keeps.drewN ?_ _) | (with_reducible refine Keeps.drew ?_) | (with_reducible refine Keeps.alloc ?_ _) | (with_reducible refine Keeps.setCell ?_ ?_ _) | (with_reducible refine Keeps.trans ?_ (After.keeps _)) | (with_reducible refine Keeps.trans ?_ (by with_reducible assumption)) | go_size)); (first | done | fail)))).keeps hk5; have HK2 := (HK2.drew).trans hk5))
      have hm : Has _ y (mach .nilFunc _ [.pointer (some ⟨R, 0, none⟩), .int .i64 slot, .int .i64 gen, .int .u64 o, .int .i64 (o / 4294967296), .int .i64 (o / 65536 % 65536), .int .i64 (o / 4096 % 16), .int .i64 (o % 4096), .int .i64 code, .int .i64 chunk, .int .i64 point]) 69 := hx
      have FX_ := (hx).facts; simp only [blockFacts, listFacts, cellsAt, Nat.reduceAdd, and_true, true_and, and_assoc, endOf] at FX_
      go_wp2_with (go_at_call 55; refine (mcount5_c hm).mono ?_; rintro e w' ⟨rfl, rfl⟩)
      ((try simp only [Exit.inBlock, Exit.then]); refine bodyPost_ret (results_none rfl _ _ _) rfl ?_)
      have U2 := U1.trans (Upd.of_keeps HK2)
      have M2 := M2.keeps HK2
      exact ⟨rfl, U2.trans (by (repeat (first | (with_reducible exact Upd.refl _ _) | (with_reducible assumption) | (with_reducible refine Upd.setCell ?_ (by first | (left; simp; done) | (right; go_size)) _) | (with_reducible refine Upd.alloc ?_ _) | (with_reducible refine Upd.drewN ?_ _) | (with_reducible refine Upd.drew ?_)))), by (apply Has.congr; (focus ((repeat (first | (with_reducible assumption) | (with_reducible exact Has.new _ _ _) | (with_reducible exact Has.new1 _ _ _ _) | (with_reducible exact Has.new2 _ _ _ _ _) | (with_reducible refine Has.newAt ?_; (simp; done)) | (with_reducible apply Has.set) | (with_reducible apply Has.far; (case hn => first | assumption | (simp; done) | (intro e_; simp at e_; omega))) | (with_reducible apply Has.alloc) | (with_reducible apply Has.drewN) | (with_reducible apply Has.drew) | (with_reducible refine Has.keeps ?_ (by with_reducible assumption)))))); (first | rfl | (simp; done))), x', M2.upd (S := [y]) (by (repeat (first | (with_reducible exact Upd.refl _ _) | (with_reducible assumption) | (with_reducible refine Upd.setCell ?_ (by first | (left; simp; done) | (right; go_size)) _) | (with_reducible refine Upd.alloc ?_ _) | (with_reducible refine Upd.drewN ?_ _) | (with_reducible refine Upd.drew ?_)))) (by simp; exact nym) (by simp; exact nyb)⟩
end
end Go.Proofs.Ytaecapjicphdkaa
