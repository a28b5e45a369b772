/- End's exchange; machines made (layer 11), walked. -/
import Derived.Test.YtaecapjicphdkaaGreatMg25
namespace Go.Proofs.YtaecapjicphdkaaGreat
set_option linter.unusedVariables false
set_option linter.unusedSimpArgs false
open Go Go.RowKit
set_option maxRecDepth 100000
set_option maxHeartbeats 1000000

section
variable {w : World} {R m bb S N B : Nat} {l : List Int} {cc : Int} {x : Acc} {p k d sn cz b : Int} {y pg q : Nat} {c slot gen was chunk point ofs code o : Int}
theorem edCas_g {nx : Option Nat} {ch2 p2 : Int} {l2 : List Int} (hv1 : o = was → nx = none ∧ ch2 = chunkI (was / 65536 % 65536) ∧ p2 = c ∧ l2 = l.set q (rootI (was / 4294967296) 0 0 0)) (hv2 : o ≠ was → nx = some 43 ∧ ch2 = chunk ∧ p2 = point ∧ l2 = l)
    (hx : Has w y (endOf .nilFunc c R slot gen was code chunk point) 117) (hR : Has w R (rootsOf m p k d sn cz b S) 109) (M : Mem w m bb N l cc x) (hq : crootI p k d sn cz b slot = q) (ho : l[q]? = some o) (o0 : 0 ≤ was) (o1 : was < 18446744073709551616) (hcc : cc < 4611686018427387903) :
    Calls Tryz.prog 80 #[.pointer (some ⟨y, 0, none⟩)] w fun e w' => e = .returned (.tuple #[]) ∧ Upd [y, m, bb] w w' ∧ Has w' y (endOf (nxt nx y) c R slot gen was code ch2 p2) 117 ∧ ∃ x', Mem w' m bb N l2 (cc + 1) x' := by
  have HQ := Lib.hid hq
  have HO := Lib.hid ho
  have HV1 := Lib.hid hv1
  have HV2 := Lib.hid hv2
  clear hq ho hv1 hv2
  have nym : m ≠ y := (Has.ne hx M.hg (by decide)).symm
  have nyb : bb ≠ y := (Has.ne hx M.hb (by decide)).symm
  have nyS : y ∉ [m, bb] := by simp; exact ⟨nym.symm, nyb.symm⟩
  have nRS : R ∉ [m, bb] := by simp only [List.mem_cons, List.not_mem_nil, or_false, not_or]; exact ⟨Has.ne hR M.hg (by decide), Has.ne hR M.hb (by decide)⟩
  have hmk : was / 65536 % 65536 ≤ 9223372036854775807 := by omega
  have HK := Keeps.refl w
  by_cases hw : o = was
  · obtain ⟨rfl, rfl, rfl, rfl⟩ := HV1.out hw
    subst hw
    have FX_ := (hx).facts; simp only [blockFacts, listFacts, cellsAt, Nat.reduceAdd, and_true, true_and, and_assoc, endOf] at FX_
    go_enter Tryz.func80, Tryz.ntmps80
    go_upto_region 1 with (go_at_call 119; refine (putRoot_c _ _ _ _ _).mono ?_; rintro e w' ⟨rfl, hk⟩; have hx := hx.keeps hk; have hR := hR.keeps hk; have M := M.keeps hk; have HK := HK.trans hk)
    have HK2 := Keeps.refl w'
    go_region_held3 (fun u => (((((((((u.cell? ⟨R, 0, none⟩ = some (.pointer (some ⟨m, 0, none⟩)) ∧ u.cell? ⟨R, 1, none⟩ = some (.int .i64 p)) ∧ u.cell? ⟨R, 2, none⟩ = some (.int .i64 k)) ∧ u.cell? ⟨R, 3, none⟩ = some (.int .i64 d)) ∧ u.cell? ⟨R, 4, none⟩ = some (.int .i64 sn)) ∧ u.cell? ⟨R, 5, none⟩ = some (.int .i64 cz)) ∧ u.cell? ⟨R, 6, none⟩ = some (.int .i64 b)) ∧ u.cell? ⟨y, 5, none⟩ = some (.pointer (some ⟨R, 0, none⟩))) ∧ u.cell? ⟨y, 6, none⟩ = some (.int .i64 slot))) ∧ u.cell? ⟨y, 8, none⟩ = some (.int .u64 o)) (((repeat' (with_reducible apply And.intro)) <;> (apply Has.cellv; (focus ((repeat (first | (with_reducible assumption) | (with_reducible exact Has.new _ _ _) | (with_reducible exact Has.new1 _ _ _ _) | (with_reducible exact Has.new2 _ _ _ _ _) | (with_reducible refine Has.newAt ?_; (simp; done)) | (with_reducible apply Has.set) | (with_reducible apply Has.far; (case hn => first | assumption | (simp; done) | (intro e_; simp at e_; omega))) | (with_reducible apply Has.alloc) | (with_reducible apply Has.drewN) | (with_reducible apply Has.drew) | (with_reducible refine Has.keeps ?_ (by with_reducible assumption)))))); (first | (with_reducible assumption) | rfl | (simp; done) | fail))))
      (first
        | (go_at_call 47; refine (lcroot_c _ _ _ _ _ _ _ _).mono ?_; rintro e w' ⟨rfl, hk5⟩; rw [HQ.out]; have hx := (hx.keeps (by ((repeat' (first | (with_reducible exact Keeps.refl _) | (with_reducible assumption) | (with_reducible refine Keeps.drewN ?_ _) | (with_reducible refine Keeps.drew ?_) | (with_reducible refine Keeps.alloc ?_ _) | (with_reducible refine Keeps.setCell ?_ ?_ _) | (with_reducible refine Keeps.trans ?_ (After.keeps _)) | (with_reducible refine Keeps.trans ?_ (by with_reducible assumption)) | go_size)); (first | done | fail)))).keeps hk5; have hR := (hR.keeps (by ((repeat' (first | (with_reducible exact Keeps.refl _) | (with_reducible assumption) | (with_reducible refine Keeps.drewN ?_ _) | (with_reducible refine Keeps.drew ?_) | (with_reducible refine Keeps.alloc ?_ _) | (with_reducible refine Keeps.setCell ?_ ?_ _) | (with_reducible refine Keeps.trans ?_ (After.keeps _)) | (with_reducible refine Keeps.trans ?_ (by with_reducible assumption)) | go_size)); (first | done | fail)))).keeps hk5; have HK2 := (HK2.drew).trans hk5)
        | (go_at_call 120; refine (mcas_eq (M.keeps HK2) q _ HO.out hcc).mono ?_; rintro e w' ⟨rfl, hu, M2⟩; have hx := hx.upd hu nyS; have hR := hR.upd hu nRS))
    go_upto_region 4 with fail
    refine wp_named' (fun W2 hW2 => ?_)
    have HK3 : Keeps w' W2 := by rw [hW2]; ((repeat' (first | (with_reducible exact Keeps.refl _) | (with_reducible assumption) | (with_reducible refine Keeps.drewN ?_ _) | (with_reducible refine Keeps.drew ?_) | (with_reducible refine Keeps.alloc ?_ _) | (with_reducible refine Keeps.setCell ?_ ?_ _) | (with_reducible refine Keeps.trans ?_ (After.keeps _)) | (with_reducible refine Keeps.trans ?_ (by with_reducible assumption)) | go_size)); (first | done | fail))
    have hx := hx.keeps HK3
    have M2 := M2.keeps HK3
    have hu := hu.trans (Upd.of_keeps HK3)
    clear hW2 HK3
    have HK4 := Keeps.refl W2
    have FX_ := (hx).facts; simp only [blockFacts, listFacts, cellsAt, Nat.reduceAdd, and_true, true_and, and_assoc, endOf] at FX_
    go_region_held3 (fun u => (((u.cell? ⟨y, 9, none⟩ = some (.int .i64 (o / 4294967296)) ∧ u.cell? ⟨y, 10, none⟩ = some (.int .i64 (o / 65536 % 65536))) ∧ u.cell? ⟨y, 11, none⟩ = some (.int .i64 (o / 4096 % 16))) ∧ u.cell? ⟨y, 12, none⟩ = some (.int .i64 (o % 4096)))) (((repeat' (with_reducible apply And.intro)) <;> (apply Has.cellv; (focus ((repeat (first | (with_reducible assumption) | (with_reducible exact Has.new _ _ _) | (with_reducible exact Has.new1 _ _ _ _) | (with_reducible exact Has.new2 _ _ _ _ _) | (with_reducible refine Has.newAt ?_; (simp; done)) | (with_reducible apply Has.set) | (with_reducible apply Has.far; (case hn => first | assumption | (simp; done) | (intro e_; simp at e_; omega))) | (with_reducible apply Has.alloc) | (with_reducible apply Has.drewN) | (with_reducible apply Has.drew) | (with_reducible refine Has.keeps ?_ (by with_reducible assumption)))))); (first | (with_reducible assumption) | rfl | (simp; done) | fail))))
      (first
        | (go_at_call 121; refine (chunk_c _ _ _ _ _ hmk).mono ?_; rintro e w' ⟨rfl, hk6⟩; have hx := (hx.keeps (by ((repeat' (first | (with_reducible exact Keeps.refl _) | (with_reducible assumption) | (with_reducible refine Keeps.drewN ?_ _) | (with_reducible refine Keeps.drew ?_) | (with_reducible refine Keeps.alloc ?_ _) | (with_reducible refine Keeps.setCell ?_ ?_ _) | (with_reducible refine Keeps.trans ?_ (After.keeps _)) | (with_reducible refine Keeps.trans ?_ (by with_reducible assumption)) | go_size)); (first | done | fail)))).keeps hk6; have HK4 := (HK4.drew).trans hk6; have FX_ := (hx).facts; simp only [blockFacts, listFacts, cellsAt, Nat.reduceAdd, and_true, true_and, and_assoc, endOf] at FX_)
        | (go_at_call 79; refine (mcount5_c (nx := .nilFunc) (st := .nilFunc) (dn := .nilFunc) (th := .nilFunc) (T := 117) (rest := [.pointer (some ⟨R, 0, none⟩), .int .i64 slot, .int .i64 gen, .int .u64 o, .int .i64 (o / 4294967296), .int .i64 (o / 65536 % 65536), .int .i64 (o / 4096 % 16), .int .i64 (o % 4096), .int .i64 code, .int .i64 chunk, .int .i64 point]) (show Has _ y _ _ from hx)).mono ?_; rintro e w' ⟨rfl, rfl⟩))
    go_end0
    have M2 := M2.keeps HK4
    exact ⟨rfl, ((Upd.of_keeps (HK.trans HK2)).trans ((hu.trans (Upd.of_keeps HK4)).mono (fun z hz => List.mem_cons_of_mem _ hz))).trans (by (repeat (first | (with_reducible exact Upd.refl _ _) | (with_reducible assumption) | (with_reducible refine Upd.setCell ?_ (by first | (left; simp; done) | (right; go_size)) _) | (with_reducible refine Upd.alloc ?_ _) | (with_reducible refine Upd.drewN ?_ _) | (with_reducible refine Upd.drew ?_)))), by (apply Has.congr; (focus ((repeat (first | (with_reducible assumption) | (with_reducible exact Has.new _ _ _) | (with_reducible exact Has.new1 _ _ _ _) | (with_reducible exact Has.new2 _ _ _ _ _) | (with_reducible refine Has.newAt ?_; (simp; done)) | (with_reducible apply Has.set) | (with_reducible apply Has.far; (case hn => first | assumption | (simp; done) | (intro e_; simp at e_; omega))) | (with_reducible apply Has.alloc) | (with_reducible apply Has.drewN) | (with_reducible apply Has.drew) | (with_reducible refine Has.keeps ?_ (by with_reducible assumption)))))); (first | rfl | (simp; done))), _, M2.upd (S := [y]) (by (repeat (first | (with_reducible exact Upd.refl _ _) | (with_reducible assumption) | (with_reducible refine Upd.setCell ?_ (by first | (left; simp; done) | (right; go_size)) _) | (with_reducible refine Upd.alloc ?_ _) | (with_reducible refine Upd.drewN ?_ _) | (with_reducible refine Upd.drew ?_)))) (by simp; exact nym) (by simp; exact nyb)⟩
  · obtain ⟨rfl, rfl, rfl, rfl⟩ := HV2.out hw
    have hne : (o != was) = true := by simpa using hw
    have HNE := Lib.hid hne
    clear hne hw
    have FX_ := (hx).facts; simp only [blockFacts, listFacts, cellsAt, Nat.reduceAdd, and_true, true_and, and_assoc, endOf] at FX_
    go_enter Tryz.func80, Tryz.ntmps80
    go_upto_region 1 with (go_at_call 119; refine (putRoot_c _ _ _ _ _).mono ?_; rintro e w' ⟨rfl, hk⟩; have hx := hx.keeps hk; have hR := hR.keeps hk; have M := M.keeps hk; have HK := HK.trans hk)
    have HK2 := Keeps.refl w'
    go_region_held3 (fun u => (((((((((u.cell? ⟨R, 0, none⟩ = some (.pointer (some ⟨m, 0, none⟩)) ∧ u.cell? ⟨R, 1, none⟩ = some (.int .i64 p)) ∧ u.cell? ⟨R, 2, none⟩ = some (.int .i64 k)) ∧ u.cell? ⟨R, 3, none⟩ = some (.int .i64 d)) ∧ u.cell? ⟨R, 4, none⟩ = some (.int .i64 sn)) ∧ u.cell? ⟨R, 5, none⟩ = some (.int .i64 cz)) ∧ u.cell? ⟨R, 6, none⟩ = some (.int .i64 b)) ∧ u.cell? ⟨y, 5, none⟩ = some (.pointer (some ⟨R, 0, none⟩))) ∧ u.cell? ⟨y, 6, none⟩ = some (.int .i64 slot))) ∧ u.cell? ⟨y, 8, none⟩ = some (.int .u64 was)) (((repeat' (with_reducible apply And.intro)) <;> (apply Has.cellv; (focus ((repeat (first | (with_reducible assumption) | (with_reducible exact Has.new _ _ _) | (with_reducible exact Has.new1 _ _ _ _) | (with_reducible exact Has.new2 _ _ _ _ _) | (with_reducible refine Has.newAt ?_; (simp; done)) | (with_reducible apply Has.set) | (with_reducible apply Has.far; (case hn => first | assumption | (simp; done) | (intro e_; simp at e_; omega))) | (with_reducible apply Has.alloc) | (with_reducible apply Has.drewN) | (with_reducible apply Has.drew) | (with_reducible refine Has.keeps ?_ (by with_reducible assumption)))))); (first | (with_reducible assumption) | rfl | (simp; done) | fail))))
      (first
        | (go_at_call 47; refine (lcroot_c _ _ _ _ _ _ _ _).mono ?_; rintro e w' ⟨rfl, hk5⟩; rw [HQ.out]; have hx := (hx.keeps (by ((repeat' (first | (with_reducible exact Keeps.refl _) | (with_reducible assumption) | (with_reducible refine Keeps.drewN ?_ _) | (with_reducible refine Keeps.drew ?_) | (with_reducible refine Keeps.alloc ?_ _) | (with_reducible refine Keeps.setCell ?_ ?_ _) | (with_reducible refine Keeps.trans ?_ (After.keeps _)) | (with_reducible refine Keeps.trans ?_ (by with_reducible assumption)) | go_size)); (first | done | fail)))).keeps hk5; have hR := (hR.keeps (by ((repeat' (first | (with_reducible exact Keeps.refl _) | (with_reducible assumption) | (with_reducible refine Keeps.drewN ?_ _) | (with_reducible refine Keeps.drew ?_) | (with_reducible refine Keeps.alloc ?_ _) | (with_reducible refine Keeps.setCell ?_ ?_ _) | (with_reducible refine Keeps.trans ?_ (After.keeps _)) | (with_reducible refine Keeps.trans ?_ (by with_reducible assumption)) | go_size)); (first | done | fail)))).keeps hk5; have HK2 := (HK2.drew).trans hk5)
        | (go_at_call 120; refine (mcas_ne (M.keeps HK2) q _ _ HO.out hcc HNE.out).mono ?_; rintro e w' ⟨rfl, hu, M2⟩; have hx := hx.upd hu nyS; have hR := hR.upd hu nRS))
    go_wp2_with (go_at_call 41; refine (mgo_c _ _ (show Has _ y (mach .nilFunc c _) 117 from hx)).mono ?_; rintro e w9 ⟨rfl, hu9, h9⟩)
    ((try simp only [Exit.inBlock, Exit.then]); refine bodyPost_ret (results_none rfl _ _ _) rfl ?_)
    exact ⟨rfl, ((Upd.of_keeps (HK.trans HK2)).trans (hu.mono (fun z hz => List.mem_cons_of_mem _ hz))).trans (hu9.mono (by simp)), h9, _, M2.upd hu9 (by simp; exact nym) (by simp; exact nyb)⟩
/-- Machines made. -/
theorem mkLook_c (slot gen : Int) (hR : Has w R (rootsOf m p k d sn cz b S) 109) (h0 : 0 ≤ slot) (h1 : slot < sn) :
    Calls Tryz.prog 12 #[.pointer (some ⟨R, 0, none⟩), .int .i64 slot, .int .i64 gen] w fun e w' => ∃ y, e = .returned (.tuple #[.pointer (some ⟨y, 0, none⟩), .int .i64 0]) ∧ Keeps w w' ∧ w.heap.size ≤ y ∧ Has w' y (lookOf (bound 42 y) 0 R slot gen 0 0) 114 := by
  have HI : Hid (isB slot sn = true) := Lib.hid (by simp [isB, h0, h1])
  go_enter Tryz.func12, Tryz.ntmps12
  go_wp2_with (first
    | (go_at_call 40; refine (ris_c _ hR).mono ?_; rintro e w' ⟨rfl, rfl⟩; rw [HI.out])
    | (go_at_call 41; refine (mgo_c _ _ (show Has _ _ (mach .nilFunc 0 [.pointer (some ⟨R, 0, none⟩), .int .i64 slot, .int .i64 gen, .int .i64 0, .int .i64 0]) 114 from Has.new w _ _)).mono ?_; rintro e w9 ⟨rfl, hu9, h9⟩))
  go_ret2
  exact ⟨w.heap.size, rfl, Keeps.upd (by ((repeat' (first | (with_reducible exact Keeps.refl _) | (with_reducible assumption) | (with_reducible refine Keeps.drewN ?_ _) | (with_reducible refine Keeps.drew ?_) | (with_reducible refine Keeps.alloc ?_ _) | (with_reducible refine Keeps.setCell ?_ ?_ _) | (with_reducible refine Keeps.trans ?_ (After.keeps _)) | (with_reducible refine Keeps.trans ?_ (by with_reducible assumption)) | go_size)); (first | done | fail))) hu9 (by simp), Nat.le_refl _, h9⟩
theorem mkLook_no (slot gen : Int) (hR : Has w R (rootsOf m p k d sn cz b S) 109) (h : slot < 0 ∨ sn ≤ slot) :
    Calls Tryz.prog 12 #[.pointer (some ⟨R, 0, none⟩), .int .i64 slot, .int .i64 gen] w fun e w' => e = .returned (.tuple #[.pointer none, .int .i64 1]) ∧ w = w' := by
  have HI : Hid (isB slot sn = false) := Lib.hid (by simp [isB]; omega)
  go_enter Tryz.func12, Tryz.ntmps12
  go_wp2_with (go_at_call 40; refine (ris_c _ hR).mono ?_; rintro e w' ⟨rfl, rfl⟩; rw [HI.out])
  go_ret2
  exact ⟨rfl, rfl⟩
theorem mkEnd_c (slot gen : Int) (hR : Has w R (rootsOf m p k d sn cz b S) 109) (h0 : 0 ≤ slot) (h1 : slot < sn) :
    Calls Tryz.prog 13 #[.pointer (some ⟨R, 0, none⟩), .int .i64 slot, .int .i64 gen] w fun e w' => ∃ y, e = .returned (.tuple #[.pointer (some ⟨y, 0, none⟩), .int .i64 0]) ∧ Keeps w w' ∧ w.heap.size ≤ y ∧ Has w' y (endOf (bound 43 y) 0 R slot gen 0 0 (-1) 0) 117 := by
  have HI : Hid (isB slot sn = true) := Lib.hid (by simp [isB, h0, h1])
  go_enter Tryz.func13, Tryz.ntmps13
  go_wp2_with (first
    | (go_at_call 40; refine (ris_c _ hR).mono ?_; rintro e w' ⟨rfl, rfl⟩; rw [HI.out])
    | (go_at_call 41; refine (mgo_c _ _ (show Has _ _ (mach .nilFunc 0 [.pointer (some ⟨R, 0, none⟩), .int .i64 slot, .int .i64 gen, .int .u64 0, .int .i64 0, .int .i64 0, .int .i64 0, .int .i64 0, .int .i64 0, .int .i64 (-1), .int .i64 0]) 117 from Has.new w _ _)).mono ?_; rintro e w9 ⟨rfl, hu9, h9⟩))
  go_ret2
  exact ⟨w.heap.size, rfl, Keeps.upd (by ((repeat' (first | (with_reducible exact Keeps.refl _) | (with_reducible assumption) | (with_reducible refine Keeps.drewN ?_ _) | (with_reducible refine Keeps.drew ?_) | (with_reducible refine Keeps.alloc ?_ _) | (with_reducible refine Keeps.setCell ?_ ?_ _) | (with_reducible refine Keeps.trans ?_ (After.keeps _)) | (with_reducible refine Keeps.trans ?_ (by with_reducible assumption)) | go_size)); (first | done | fail))) hu9 (by simp), Nat.le_refl _, h9⟩
theorem mkEnd_no (slot gen : Int) (hR : Has w R (rootsOf m p k d sn cz b S) 109) (h : slot < 0 ∨ sn ≤ slot) :
    Calls Tryz.prog 13 #[.pointer (some ⟨R, 0, none⟩), .int .i64 slot, .int .i64 gen] w fun e w' => e = .returned (.tuple #[.pointer none, .int .i64 1]) ∧ w = w' := by
  have HI : Hid (isB slot sn = false) := Lib.hid (by simp [isB]; omega)
  go_enter Tryz.func13, Tryz.ntmps13
  go_wp2_with (go_at_call 40; refine (ris_c _ hR).mono ?_; rintro e w' ⟨rfl, rfl⟩; rw [HI.out])
  go_ret2
  exact ⟨rfl, rfl⟩
theorem back_c (slot : Int) {hd lk n : Nat} (hR : Has w R (rootsOf m p k d sn cz b S) 109) (hS : Has w S (stackOf m hd lk n) 143) (h0 : 0 ≤ slot) (h1 : slot < n) :
    Calls Tryz.prog 14 #[.pointer (some ⟨R, 0, none⟩), .int .i64 slot] w fun e w' => ∃ g v, e = .returned (.tuple #[.pointer (some ⟨g, 0, none⟩), .int .i64 0]) ∧ Keeps w w' ∧ w.heap.size ≤ g ∧ PuRep w' (w.heap.size + 1) g S v ⟨1, 0, [slot], 0, 0⟩ := by
  have hz : itemsB n [slot] := ⟨by simp; omega, by simp⟩
  have HZ := Lib.hid hz
  have HA : Has (w.alloc (.cells #[.int .i64 slot] 3)) w.heap.size #[.int .i64 slot] 3 := Has.new w _ _
  have HRD : Hid (Reads .i64 (w.alloc (.cells #[.int .i64 slot] 3)) (.slice (some ⟨w.heap.size, 0, none⟩) [slot].length 1) [slot]) := Lib.hid ⟨some ⟨w.heap.size, 0, none⟩, 1, rfl, fun _ => ⟨w.heap.size, 0, rfl, HA.lt, fun i z hi => by
    match i, hi with
    | 0, hi => simp at hi; subst hi; exact HA.cell 0⟩⟩
  have HPU := Lib.hid (mkPush_c [slot] (some ⟨w.heap.size, 0, none⟩) 1 HRD.out (by simp) (hS.alloc (.cells #[.int .i64 slot] 3)) hz (by simp))
  clear hz
  have FX_ := (hR).facts; simp only [blockFacts, listFacts, cellsAt, Nat.reduceAdd, and_true, true_and, and_assoc, rootsOf] at FX_
  go_enter Tryz.func14, Tryz.ntmps14
  go_wp2_with (go_at_call 44; refine (HPU.out).mono ?_; rintro e w' ⟨g, v, rfl, hk, hg, hp⟩)
  go_ret2
  simp only [World.size_alloc] at hg hp
  exact ⟨g, v, rfl, ((Keeps.refl w).alloc _).trans hk, by omega, hp⟩
theorem back_no (slot : Int) {hd lk n : Nat} (hR : Has w R (rootsOf m p k d sn cz b S) 109) (hS : Has w S (stackOf m hd lk n) 143) (h0 : slot < 0 ∨ n ≤ slot) :
    Calls Tryz.prog 14 #[.pointer (some ⟨R, 0, none⟩), .int .i64 slot] w fun e w' => e = .returned (.tuple #[.pointer none, .int .i64 1]) ∧ Keeps w w' := by
  have hz : ¬ itemsB n [slot] := by rintro ⟨h, _⟩; have := h slot (by simp); omega
  have HA : Has (w.alloc (.cells #[.int .i64 slot] 3)) w.heap.size #[.int .i64 slot] 3 := Has.new w _ _
  have HRD : Hid (Reads .i64 (w.alloc (.cells #[.int .i64 slot] 3)) (.slice (some ⟨w.heap.size, 0, none⟩) [slot].length 1) [slot]) := Lib.hid ⟨some ⟨w.heap.size, 0, none⟩, 1, rfl, fun _ => ⟨w.heap.size, 0, rfl, HA.lt, fun i z hi => by
    match i, hi with
    | 0, hi => simp at hi; subst hi; exact HA.cell 0⟩⟩
  have HPU := Lib.hid (mkPush_no [slot] (some ⟨w.heap.size, 0, none⟩) 1 HRD.out (by simp) (hS.alloc (.cells #[.int .i64 slot] 3)) hz (by simp))
  clear hz
  have FX_ := (hR).facts; simp only [blockFacts, listFacts, cellsAt, Nat.reduceAdd, and_true, true_and, and_assoc, rootsOf] at FX_
  go_enter Tryz.func14, Tryz.ntmps14
  go_wp2_with (go_at_call 44; refine (HPU.out).mono ?_; rintro e w' ⟨rfl, rfl⟩)
  go_ret2
  exact ⟨rfl, by ((repeat' (first | (with_reducible exact Keeps.refl _) | (with_reducible assumption) | (with_reducible refine Keeps.drewN ?_ _) | (with_reducible refine Keeps.drew ?_) | (with_reducible refine Keeps.alloc ?_ _) | (with_reducible refine Keeps.setCell ?_ ?_ _) | (with_reducible refine Keeps.trans ?_ (After.keeps _)) | (with_reducible refine Keeps.trans ?_ (by with_reducible assumption)) | go_size)); (first | done | fail))⟩
def clampI (c : Int) : Int := if 3 < (if c < 0 then 0 else c) then 3 else (if c < 0 then 0 else c)
theorem mThrough_c {v : Value} {s : Po} {cls g mk cl : Int} (hd : decide (3 ≤ s.ph) = false) (hx : Has w y #[.nilFunc, .nilFunc, .nilFunc, .nilFunc, .int .i64 c, .pointer (some ⟨R, 0, none⟩), .int .i64 cls, .pointer (some ⟨pg, 0, none⟩), .int .i64 slot, .int .i64 point, .int .i64 g, .int .i64 mk, .int .i64 cl, .int .i64 ofs, .int .i64 code] 140) (hp : PoRep w B pg S v s) :
    Calls Tryz.prog 70 #[.pointer (some ⟨y, 0, none⟩), bound 71 pg, bound 72 pg, bound 73 y] w fun e w' => e = .returned (.tuple #[]) ∧ Upd [y] w w' ∧ Has w' y (createOf (bound 135 y) c R cls pg y slot point g mk cl ofs code) 140 := by
  have HD := Lib.hid hd
  have HP := Lib.hid hp
  clear hd hp
  have FX_ := (hx).facts; simp only [blockFacts, listFacts, cellsAt, Nat.reduceAdd, and_true, true_and, and_assoc] at FX_
  go_enter Tryz.func70, Tryz.ntmps70
  go_wp2_with (go_at_call 115; refine (crOn_c (s := s) (v := v) (B := B) (S := S) (pg := pg) (c := c) (R := R) (cls := cls) (slot := slot) (point := point) (g := g) (mk := mk) (cl := cl) (ofs := ofs) (code := code) HD.out (by unfold createOf; (apply Has.congr; (focus ((repeat (first | (with_reducible assumption) | (with_reducible exact Has.new _ _ _) | (with_reducible exact Has.new1 _ _ _ _) | (with_reducible exact Has.new2 _ _ _ _ _) | (with_reducible refine Has.newAt ?_; (simp; done)) | (with_reducible apply Has.set) | (with_reducible apply Has.far; (case hn => first | assumption | (simp; done) | (intro e_; simp at e_; omega))) | (with_reducible apply Has.alloc) | (with_reducible apply Has.drewN) | (with_reducible apply Has.drew) | (with_reducible refine Has.keeps ?_ (by with_reducible assumption)))))); (first | rfl | (simp; done)))) (HP.out.offx hx (by (repeat (first | (with_reducible exact Upd.refl _ _) | (with_reducible assumption) | (with_reducible refine Upd.setCell ?_ (by first | (left; simp; done) | (right; go_size)) _) | (with_reducible refine Upd.alloc ?_ _) | (with_reducible refine Upd.drewN ?_ _) | (with_reducible refine Upd.drew ?_)))))).mono ?_; rintro e w9 ⟨rfl, hu9, h9⟩)
  go_end0
  exact ⟨rfl, Upd.trans (by (repeat (first | (with_reducible exact Upd.refl _ _) | (with_reducible assumption) | (with_reducible refine Upd.setCell ?_ (by first | (left; simp; done) | (right; go_size)) _) | (with_reducible refine Upd.alloc ?_ _) | (with_reducible refine Upd.drewN ?_ _) | (with_reducible refine Upd.drew ?_)))) hu9, h9⟩
theorem mkCreate_c (class_ : Int) (hR : Has w R (rootsOf m p k d sn cz b S) 109) :
    Calls Tryz.prog 28 #[.pointer (some ⟨R, 0, none⟩), .int .i64 class_] w fun e w' => ∃ y pg, e = .returned (.pointer (some ⟨y, 0, none⟩)) ∧ Keeps w w' ∧ w.heap.size ≤ y ∧ w.heap.size ≤ pg ∧ PoRep w' B pg S (.slice none 0 0) ⟨0, 0, 1, 0, 0, []⟩ ∧
      Has w' y (createOf (bound 135 y) 0 R (clampI class_) pg y (-1) 0 0 0 0 0 0) 140 := by
  rcases (show class_ < 0 ∨ (0 ≤ class_ ∧ class_ ≤ 3) ∨ 3 < class_ by omega) with h | ⟨h, h'⟩ | h
  · have e : clampI class_ = 0 := by simp only [clampI]; (repeat' split) <;> omega
    rw [e]
    clear e
    have FX_ := (hR).facts; simp only [blockFacts, listFacts, cellsAt, Nat.reduceAdd, and_true, true_and, and_assoc, rootsOf] at FX_
    go_enter Tryz.func28, Tryz.ntmps28
    go_upto_region 2 with (go_at_call 69; refine (mkPop_c (B := B) 1 1 (by omega)).mono ?_; rintro e w' ⟨pg, rfl, hk, hpg, hp⟩)
    refine wp_named' (fun W1 hW => ?_)
    have hsz := hp.has.lt
    have HX : Has W1 w'.heap.size #[.nilFunc, .nilFunc, .nilFunc, .nilFunc, .int .i64 0, .pointer (some ⟨R, 0, none⟩), .int .i64 0, .pointer (some ⟨pg, 0, none⟩), .int .i64 (-1), .int .i64 0, .int .i64 0, .int .i64 0, .int .i64 0, .int .i64 0, .int .i64 0] 140 := by
      rw [hW]
      refine Has.congr (Has.new _ _ _) ?_
      rfl
    have K1 : Keeps w W1 := by rw [hW]; exact hk.alloc _
    have hp : PoRep W1 B pg S (.slice none 0 0) ⟨0, 0, 1, 0, 0, []⟩ := by rw [hW]; exact ⟨hp.has.alloc _, hp.row.keeps ((Keeps.refl w').alloc _)⟩
    have hyw : w.heap.size ≤ w'.heap.size := hk.size
    clear hW
    generalize w'.heap.size = y at *
    have nyp := Has.ne hp.has HX (by decide)
    have F7 : W1.cell? ⟨y, 7, none⟩ = some (.pointer (some ⟨pg, 0, none⟩)) := HX.cell 7
    have HK := Keeps.refl W1
    have hpd : PoRep W1.drew B pg S (.slice none 0 0) ⟨0, 0, 1, 0, 0, []⟩ := ⟨hp.has.drew, hp.row.keeps ((Keeps.refl W1).drew)⟩
    have HT := Lib.hid (mThrough_c (s := ⟨0, 0, 1, 0, 0, []⟩) (v := .slice none 0 0) (B := B) (S := S) (by decide) HX.drew hpd)
    go_region_held3 (fun u => u.cell? ⟨y, 7, none⟩ = some (.pointer (some ⟨pg, 0, none⟩))) (((repeat' (with_reducible apply And.intro)) <;> (apply Has.cellv; (focus ((repeat (first | (with_reducible assumption) | (with_reducible exact Has.new _ _ _) | (with_reducible exact Has.new1 _ _ _ _) | (with_reducible exact Has.new2 _ _ _ _ _) | (with_reducible refine Has.newAt ?_; (simp; done)) | (with_reducible apply Has.set) | (with_reducible apply Has.far; (case hn => first | assumption | (simp; done) | (intro e_; simp at e_; omega))) | (with_reducible apply Has.alloc) | (with_reducible apply Has.drewN) | (with_reducible apply Has.drew) | (with_reducible refine Has.keeps ?_ (by with_reducible assumption)))))); (first | (with_reducible assumption) | rfl | (simp; done) | fail))))
      ((go_at_call 70; refine HT.out.mono ?_; rintro e w9 ⟨rfl, hu9, h9⟩; have hp9 := PoRep.offx hpd HX.drew hu9; have h97 := h9.cell 7; unfold createOf at h97))
    all_goals go_wp2
    all_goals go_ret
    all_goals exact ⟨y, pg, rfl, Keeps.upd (K1.drew) hu9 (by simp; omega), hyw, hpg, hp9, h9⟩
  · have e : clampI class_ = class_ := by simp only [clampI]; (repeat' split) <;> omega
    rw [e]
    clear e
    have FX_ := (hR).facts; simp only [blockFacts, listFacts, cellsAt, Nat.reduceAdd, and_true, true_and, and_assoc, rootsOf] at FX_
    go_enter Tryz.func28, Tryz.ntmps28
    go_upto_region 2 with (go_at_call 69; refine (mkPop_c (B := B) 1 1 (by omega)).mono ?_; rintro e w' ⟨pg, rfl, hk, hpg, hp⟩)
    refine wp_named' (fun W1 hW => ?_)
    have hsz := hp.has.lt
    have HX : Has W1 w'.heap.size #[.nilFunc, .nilFunc, .nilFunc, .nilFunc, .int .i64 0, .pointer (some ⟨R, 0, none⟩), .int .i64 class_, .pointer (some ⟨pg, 0, none⟩), .int .i64 (-1), .int .i64 0, .int .i64 0, .int .i64 0, .int .i64 0, .int .i64 0, .int .i64 0] 140 := by
      rw [hW]
      refine Has.congr (Has.new _ _ _) ?_
      rfl
    have K1 : Keeps w W1 := by rw [hW]; exact hk.alloc _
    have hp : PoRep W1 B pg S (.slice none 0 0) ⟨0, 0, 1, 0, 0, []⟩ := by rw [hW]; exact ⟨hp.has.alloc _, hp.row.keeps ((Keeps.refl w').alloc _)⟩
    have hyw : w.heap.size ≤ w'.heap.size := hk.size
    clear hW
    generalize w'.heap.size = y at *
    have nyp := Has.ne hp.has HX (by decide)
    have F7 : W1.cell? ⟨y, 7, none⟩ = some (.pointer (some ⟨pg, 0, none⟩)) := HX.cell 7
    have HK := Keeps.refl W1
    have hpd : PoRep W1.drew B pg S (.slice none 0 0) ⟨0, 0, 1, 0, 0, []⟩ := ⟨hp.has.drew, hp.row.keeps ((Keeps.refl W1).drew)⟩
    have HT := Lib.hid (mThrough_c (s := ⟨0, 0, 1, 0, 0, []⟩) (v := .slice none 0 0) (B := B) (S := S) (by decide) HX.drew hpd)
    go_region_held3 (fun u => u.cell? ⟨y, 7, none⟩ = some (.pointer (some ⟨pg, 0, none⟩))) (((repeat' (with_reducible apply And.intro)) <;> (apply Has.cellv; (focus ((repeat (first | (with_reducible assumption) | (with_reducible exact Has.new _ _ _) | (with_reducible exact Has.new1 _ _ _ _) | (with_reducible exact Has.new2 _ _ _ _ _) | (with_reducible refine Has.newAt ?_; (simp; done)) | (with_reducible apply Has.set) | (with_reducible apply Has.far; (case hn => first | assumption | (simp; done) | (intro e_; simp at e_; omega))) | (with_reducible apply Has.alloc) | (with_reducible apply Has.drewN) | (with_reducible apply Has.drew) | (with_reducible refine Has.keeps ?_ (by with_reducible assumption)))))); (first | (with_reducible assumption) | rfl | (simp; done) | fail))))
      ((go_at_call 70; refine HT.out.mono ?_; rintro e w9 ⟨rfl, hu9, h9⟩; have hp9 := PoRep.offx hpd HX.drew hu9; have h97 := h9.cell 7; unfold createOf at h97))
    all_goals go_wp2
    all_goals go_ret
    all_goals exact ⟨y, pg, rfl, Keeps.upd (K1.drew) hu9 (by simp; omega), hyw, hpg, hp9, h9⟩
  · have e : clampI class_ = 3 := by simp only [clampI]; (repeat' split) <;> omega
    rw [e]
    clear e
    have FX_ := (hR).facts; simp only [blockFacts, listFacts, cellsAt, Nat.reduceAdd, and_true, true_and, and_assoc, rootsOf] at FX_
    go_enter Tryz.func28, Tryz.ntmps28
    go_upto_region 2 with (go_at_call 69; refine (mkPop_c (B := B) 1 1 (by omega)).mono ?_; rintro e w' ⟨pg, rfl, hk, hpg, hp⟩)
    refine wp_named' (fun W1 hW => ?_)
    have hsz := hp.has.lt
    have HX : Has W1 w'.heap.size #[.nilFunc, .nilFunc, .nilFunc, .nilFunc, .int .i64 0, .pointer (some ⟨R, 0, none⟩), .int .i64 3, .pointer (some ⟨pg, 0, none⟩), .int .i64 (-1), .int .i64 0, .int .i64 0, .int .i64 0, .int .i64 0, .int .i64 0, .int .i64 0] 140 := by
      rw [hW]
      refine Has.congr (Has.new _ _ _) ?_
      rfl
    have K1 : Keeps w W1 := by rw [hW]; exact hk.alloc _
    have hp : PoRep W1 B pg S (.slice none 0 0) ⟨0, 0, 1, 0, 0, []⟩ := by rw [hW]; exact ⟨hp.has.alloc _, hp.row.keeps ((Keeps.refl w').alloc _)⟩
    have hyw : w.heap.size ≤ w'.heap.size := hk.size
    clear hW
    generalize w'.heap.size = y at *
    have nyp := Has.ne hp.has HX (by decide)
    have F7 : W1.cell? ⟨y, 7, none⟩ = some (.pointer (some ⟨pg, 0, none⟩)) := HX.cell 7
    have HK := Keeps.refl W1
    have hpd : PoRep W1.drew B pg S (.slice none 0 0) ⟨0, 0, 1, 0, 0, []⟩ := ⟨hp.has.drew, hp.row.keeps ((Keeps.refl W1).drew)⟩
    have HT := Lib.hid (mThrough_c (s := ⟨0, 0, 1, 0, 0, []⟩) (v := .slice none 0 0) (B := B) (S := S) (by decide) HX.drew hpd)
    go_region_held3 (fun u => u.cell? ⟨y, 7, none⟩ = some (.pointer (some ⟨pg, 0, none⟩))) (((repeat' (with_reducible apply And.intro)) <;> (apply Has.cellv; (focus ((repeat (first | (with_reducible assumption) | (with_reducible exact Has.new _ _ _) | (with_reducible exact Has.new1 _ _ _ _) | (with_reducible exact Has.new2 _ _ _ _ _) | (with_reducible refine Has.newAt ?_; (simp; done)) | (with_reducible apply Has.set) | (with_reducible apply Has.far; (case hn => first | assumption | (simp; done) | (intro e_; simp at e_; omega))) | (with_reducible apply Has.alloc) | (with_reducible apply Has.drewN) | (with_reducible apply Has.drew) | (with_reducible refine Has.keeps ?_ (by with_reducible assumption)))))); (first | (with_reducible assumption) | rfl | (simp; done) | fail))))
      ((go_at_call 70; refine HT.out.mono ?_; rintro e w9 ⟨rfl, hu9, h9⟩; have hp9 := PoRep.offx hpd HX.drew hu9; have h97 := h9.cell 7; unfold createOf at h97))
    all_goals go_wp2
    all_goals go_ret
    all_goals exact ⟨y, pg, rfl, Keeps.upd (K1.drew) hu9 (by simp; omega), hyw, hpg, hp9, h9⟩
end
end Go.Proofs.YtaecapjicphdkaaGreat
