/- roots.New, Fill, the law's maker of memories (layer 11), walked. -/
import Derived.Test.YtaecapjicphdkaaGreatMg27
import Derived.Test.YtaecapjicphdkaaGreatMg23
namespace Go.Proofs.YtaecapjicphdkaaGreat
set_option linter.unusedVariables false
set_option linter.unusedSimpArgs false
open Go Go.RowKit
set_option maxRecDepth 100000
set_option maxHeartbeats 2000000

abbrev cfgV (p k d s c b : Int) : Value := .agg #[.int .i64 p, .int .i64 k, .int .i64 d, .int .i64 s, .int .i64 c, .int .i64 b]
abbrev cfgA (p k d s c b : Int) : Array Value := #[.int .i64 p, .int .i64 k, .int .i64 d, .int .i64 s, .int .i64 c, .int .i64 b]
theorem set_sameO {l : List Int} {i : Nat} {v : Int} (h : l[i]? = some v) : l.set i v = l := by
  apply List.ext_getElem?
  intro j
  rw [List.getElem?_set]
  split
  · rename_i e; subst e; rw [h]; simp [get_lt h]
  · rfl
section
variable {w : World} {m bb N : Nat} {l : List Int} {cc : Int} {x : Acc} {p k d s c b : Int}
theorem rootsNew_c (M : Mem w m bb N l cc x) (hm : mayB p k d s c b = true) (hN : lenI p k d s c b ≤ N) :
    Calls Tryz.prog 11 #[.pointer (some ⟨m, 0, none⟩), cfgV p k d s c b] w fun e w' => ∃ R S, e = .returned (.tuple #[.pointer (some ⟨R, 0, none⟩), .int .i64 0]) ∧ Keeps w w' ∧ w.heap.size ≤ R ∧ w.heap.size ≤ S ∧ Has w' R (rootsOf m p k d s c b S) 109 ∧ Has w' S (stackOf m 1 (3 + p + s) s) 143 := by
  have HM := Lib.hid hm
  obtain ⟨⟨p0, p1⟩, ⟨k0, k1⟩, ⟨d0, d1⟩, -, ⟨s0, s1⟩, ⟨c0, c1⟩, b0, b1⟩ := mayB_true.1 hm
  obtain ⟨q0, q1⟩ := prod_bd k0 k1 d0 d1
  have hle : lenI p k d s c b = 3 + p + 2 * s + k + k * d := by unfold lenI; rw [if_pos hm]
  obtain ⟨q, hq⟩ : ∃ q, lenI p k d s c b = q := ⟨_, rfl⟩
  have HQ := Lib.hid hq
  have HSl : Hid (cslotI p k d s c b 0 = 3 + p + s) := Lib.hid (by unfold cslotI; rw [atI_t hm (by omega) (by omega)]; omega)
  have hb2 : 3 + p + s + s ≤ N := by omega
  rw [hq] at hN
  have hlt : ¬ (N : Int) < q := by omega
  clear hm hq hle
  go_enter Tryz.func11, Tryz.ntmps11
  go_wp2
  refine wp_named' (fun W1 hW => ?_)
  have HK : Keeps w W1 := by rw [hW]; ((repeat' (first | (with_reducible exact Keeps.refl _) | (with_reducible assumption) | (with_reducible refine Keeps.drewN ?_ _) | (with_reducible refine Keeps.drew ?_) | (with_reducible refine Keeps.alloc ?_ _) | (with_reducible refine Keeps.setCell ?_ ?_ _) | (with_reducible refine Keeps.trans ?_ (After.keeps _)) | (with_reducible refine Keeps.trans ?_ (by with_reducible assumption)) | go_size)); (first | done | fail))
  have HC : Has W1 w.heap.size (cfgA p k d s c b) 24 := by rw [hW]; (apply Has.congr; (focus ((repeat (first | (with_reducible assumption) | (with_reducible exact Has.new _ _ _) | (with_reducible exact Has.new1 _ _ _ _) | (with_reducible exact Has.new2 _ _ _ _ _) | (with_reducible refine Has.newAt ?_; (simp; done)) | (with_reducible apply Has.set) | (with_reducible apply Has.far; (case hn => first | assumption | (simp; done) | (intro e_; simp at e_; omega))) | (with_reducible apply Has.alloc) | (with_reducible apply Has.drewN) | (with_reducible apply Has.drew) | (with_reducible refine Has.keeps ?_ (by with_reducible assumption)))))); (first | rfl | (simp; done)))
  clear hW
  go_region_held3 (fun y => (((y.cell? ⟨w.heap.size, 0, none⟩ = some (.int .i64 p) ∧ y.cell? ⟨w.heap.size, 1, none⟩ = some (.int .i64 k)) ∧ y.cell? ⟨w.heap.size, 2, none⟩ = some (.int .i64 d)) ∧ y.cell? ⟨w.heap.size, 3, none⟩ = some (.int .i64 s)) ∧ y.cell? ⟨w.heap.size, 4, none⟩ = some (.int .i64 c) ∧ y.cell? ⟨w.heap.size, 5, none⟩ = some (.int .i64 b)) (((repeat' (with_reducible apply And.intro)) <;> (apply Has.cellv; (focus ((repeat (first | (with_reducible assumption) | (with_reducible exact Has.new _ _ _) | (with_reducible exact Has.new1 _ _ _ _) | (with_reducible exact Has.new2 _ _ _ _ _) | (with_reducible refine Has.newAt ?_; (simp; done)) | (with_reducible apply Has.set) | (with_reducible apply Has.far; (case hn => first | assumption | (simp; done) | (intro e_; simp at e_; omega))) | (with_reducible apply Has.alloc) | (with_reducible apply Has.drewN) | (with_reducible apply Has.drew) | (with_reducible refine Has.keeps ?_ (by with_reducible assumption)))))); (first | (with_reducible assumption) | rfl | (simp; done) | fail))))
    (first
      | (go_at_call 35; refine (may_c _ _ _ _ _ _ _).mono ?_; rintro e w' ⟨rfl, hk5⟩; rw [HM.out]; have HC := (HC.keeps (by ((repeat' (first | (with_reducible exact Keeps.refl _) | (with_reducible assumption) | (with_reducible refine Keeps.drewN ?_ _) | (with_reducible refine Keeps.drew ?_) | (with_reducible refine Keeps.alloc ?_ _) | (with_reducible refine Keeps.setCell ?_ ?_ _) | (with_reducible refine Keeps.trans ?_ (After.keeps _)) | (with_reducible refine Keeps.trans ?_ (by with_reducible assumption)) | go_size)); (first | done | fail)))).keeps hk5; have HK := (HK.drew).trans hk5)
      | (go_at_call 37; refine (mlen (M.keeps (by ((repeat' (first | (with_reducible exact Keeps.refl _) | (with_reducible assumption) | (with_reducible refine Keeps.drewN ?_ _) | (with_reducible refine Keeps.drew ?_) | (with_reducible refine Keeps.alloc ?_ _) | (with_reducible refine Keeps.setCell ?_ ?_ _) | (with_reducible refine Keeps.trans ?_ (After.keeps _)) | (with_reducible refine Keeps.trans ?_ (by with_reducible assumption)) | go_size)); (first | done | fail))))).mono ?_; rintro e w' ⟨rfl, rfl⟩)
      | (go_at_call 8; refine (len_c _ _ _ _ _ _ _).mono ?_; rintro e w' ⟨rfl, hk6⟩; rw [HQ.out]; have HC := HC.keeps hk6; have HK := HK.trans hk6))
  go_upto_region 3 with fail
  have HK2 := Keeps.refl w'
  have HZ := HK.size
  go_region_held3 (fun y => (((y.cell? ⟨w.heap.size, 0, none⟩ = some (.int .i64 p) ∧ y.cell? ⟨w.heap.size, 1, none⟩ = some (.int .i64 k)) ∧ y.cell? ⟨w.heap.size, 2, none⟩ = some (.int .i64 d)) ∧ y.cell? ⟨w.heap.size, 3, none⟩ = some (.int .i64 s)) ∧ y.cell? ⟨w.heap.size, 4, none⟩ = some (.int .i64 c) ∧ y.cell? ⟨w.heap.size, 5, none⟩ = some (.int .i64 b)) (((repeat' (with_reducible apply And.intro)) <;> (apply Has.cellv; (focus ((repeat (first | (with_reducible assumption) | (with_reducible exact Has.new _ _ _) | (with_reducible exact Has.new1 _ _ _ _) | (with_reducible exact Has.new2 _ _ _ _ _) | (with_reducible refine Has.newAt ?_; (simp; done)) | (with_reducible apply Has.set) | (with_reducible apply Has.far; (case hn => first | assumption | (simp; done) | (intro e_; simp at e_; omega))) | (with_reducible apply Has.alloc) | (with_reducible apply Has.drewN) | (with_reducible apply Has.drew) | (with_reducible refine Has.keeps ?_ (by with_reducible assumption)))))); (first | (with_reducible assumption) | rfl | (simp; done) | fail))))
    (first
      | (go_at_call 39; refine (lcslot_c _ _ _ _ _ _ _ _).mono ?_; rintro e w' ⟨rfl, hk5⟩; rw [HSl.out]; have HC := (HC.keeps (by ((repeat' (first | (with_reducible exact Keeps.refl _) | (with_reducible assumption) | (with_reducible refine Keeps.drewN ?_ _) | (with_reducible refine Keeps.drew ?_) | (with_reducible refine Keeps.alloc ?_ _) | (with_reducible refine Keeps.setCell ?_ ?_ _) | (with_reducible refine Keeps.trans ?_ (After.keeps _)) | (with_reducible refine Keeps.trans ?_ (by with_reducible assumption)) | go_size)); (first | done | fail)))).keeps hk5; have HK2 := (HK2.drew).trans hk5)
      | (go_at_call 38; refine (stackNew_c 1 (3 + p + s) s (M.keeps (HK.trans HK2)) (by omega) (by omega) (by omega) (by omega) (by omega) (by omega) (by omega)).mono ?_; rintro e w' ⟨S, rfl, hk7, hS, HS⟩; have HC := HC.keeps hk7; have hS := Nat.le_trans HK2.size hS; have HK2 := HK2.trans hk7))
  have FX_ := (HC).facts; simp only [blockFacts, listFacts, cellsAt, Nat.reduceAdd, and_true, true_and, and_assoc] at FX_
  go_wp2
  go_ret2
  have hz2 := HK2.size
  exact ⟨w'.heap.size, S, rfl, by ((repeat' (first | (with_reducible exact Keeps.refl _) | (with_reducible assumption) | (with_reducible refine Keeps.drewN ?_ _) | (with_reducible refine Keeps.drew ?_) | (with_reducible refine Keeps.alloc ?_ _) | (with_reducible refine Keeps.setCell ?_ ?_ _) | (with_reducible refine Keeps.trans ?_ (After.keeps _)) | (with_reducible refine Keeps.trans ?_ (by with_reducible assumption)) | go_size)); (first | done | fail)), by omega, by omega, by (apply Has.congr; (focus ((repeat (first | (with_reducible assumption) | (with_reducible exact Has.new _ _ _) | (with_reducible exact Has.new1 _ _ _ _) | (with_reducible exact Has.new2 _ _ _ _ _) | (with_reducible refine Has.newAt ?_; (simp; done)) | (with_reducible apply Has.set) | (with_reducible apply Has.far; (case hn => first | assumption | (simp; done) | (intro e_; simp at e_; omega))) | (with_reducible apply Has.alloc) | (with_reducible apply Has.drewN) | (with_reducible apply Has.drew) | (with_reducible refine Has.keeps ?_ (by with_reducible assumption)))))); (first | rfl | (simp; done))), by (apply Has.congr; (focus ((repeat (first | (with_reducible assumption) | (with_reducible exact Has.new _ _ _) | (with_reducible exact Has.new1 _ _ _ _) | (with_reducible exact Has.new2 _ _ _ _ _) | (with_reducible refine Has.newAt ?_; (simp; done)) | (with_reducible apply Has.set) | (with_reducible apply Has.far; (case hn => first | assumption | (simp; done) | (intro e_; simp at e_; omega))) | (with_reducible apply Has.alloc) | (with_reducible apply Has.drewN) | (with_reducible apply Has.drew) | (with_reducible refine Has.keeps ?_ (by with_reducible assumption)))))); (first | rfl | (simp; done)))⟩
theorem rootsNew_small (M : Mem w m bb N l cc x) (hm : mayB p k d s c b = true) (hN : (N : Int) < lenI p k d s c b) :
    Calls Tryz.prog 11 #[.pointer (some ⟨m, 0, none⟩), cfgV p k d s c b] w fun e w' => e = .returned (.tuple #[.pointer none, .int .i64 1]) ∧ Keeps w w' := by
  have HM := Lib.hid hm
  obtain ⟨q, hq⟩ : ∃ q, lenI p k d s c b = q := ⟨_, rfl⟩
  have HQ := Lib.hid hq
  rw [hq] at hN
  clear hm hq
  go_enter Tryz.func11, Tryz.ntmps11
  go_wp2
  refine wp_named' (fun W1 hW => ?_)
  have HK : Keeps w W1 := by rw [hW]; ((repeat' (first | (with_reducible exact Keeps.refl _) | (with_reducible assumption) | (with_reducible refine Keeps.drewN ?_ _) | (with_reducible refine Keeps.drew ?_) | (with_reducible refine Keeps.alloc ?_ _) | (with_reducible refine Keeps.setCell ?_ ?_ _) | (with_reducible refine Keeps.trans ?_ (After.keeps _)) | (with_reducible refine Keeps.trans ?_ (by with_reducible assumption)) | go_size)); (first | done | fail))
  have HC : Has W1 w.heap.size (cfgA p k d s c b) 24 := by rw [hW]; (apply Has.congr; (focus ((repeat (first | (with_reducible assumption) | (with_reducible exact Has.new _ _ _) | (with_reducible exact Has.new1 _ _ _ _) | (with_reducible exact Has.new2 _ _ _ _ _) | (with_reducible refine Has.newAt ?_; (simp; done)) | (with_reducible apply Has.set) | (with_reducible apply Has.far; (case hn => first | assumption | (simp; done) | (intro e_; simp at e_; omega))) | (with_reducible apply Has.alloc) | (with_reducible apply Has.drewN) | (with_reducible apply Has.drew) | (with_reducible refine Has.keeps ?_ (by with_reducible assumption)))))); (first | rfl | (simp; done)))
  clear hW
  go_region_held3 (fun y => (((y.cell? ⟨w.heap.size, 0, none⟩ = some (.int .i64 p) ∧ y.cell? ⟨w.heap.size, 1, none⟩ = some (.int .i64 k)) ∧ y.cell? ⟨w.heap.size, 2, none⟩ = some (.int .i64 d)) ∧ y.cell? ⟨w.heap.size, 3, none⟩ = some (.int .i64 s)) ∧ y.cell? ⟨w.heap.size, 4, none⟩ = some (.int .i64 c) ∧ y.cell? ⟨w.heap.size, 5, none⟩ = some (.int .i64 b)) (((repeat' (with_reducible apply And.intro)) <;> (apply Has.cellv; (focus ((repeat (first | (with_reducible assumption) | (with_reducible exact Has.new _ _ _) | (with_reducible exact Has.new1 _ _ _ _) | (with_reducible exact Has.new2 _ _ _ _ _) | (with_reducible refine Has.newAt ?_; (simp; done)) | (with_reducible apply Has.set) | (with_reducible apply Has.far; (case hn => first | assumption | (simp; done) | (intro e_; simp at e_; omega))) | (with_reducible apply Has.alloc) | (with_reducible apply Has.drewN) | (with_reducible apply Has.drew) | (with_reducible refine Has.keeps ?_ (by with_reducible assumption)))))); (first | (with_reducible assumption) | rfl | (simp; done) | fail))))
    (first
      | (go_at_call 35; refine (may_c _ _ _ _ _ _ _).mono ?_; rintro e w' ⟨rfl, hk5⟩; rw [HM.out]; have HC := (HC.keeps (by ((repeat' (first | (with_reducible exact Keeps.refl _) | (with_reducible assumption) | (with_reducible refine Keeps.drewN ?_ _) | (with_reducible refine Keeps.drew ?_) | (with_reducible refine Keeps.alloc ?_ _) | (with_reducible refine Keeps.setCell ?_ ?_ _) | (with_reducible refine Keeps.trans ?_ (After.keeps _)) | (with_reducible refine Keeps.trans ?_ (by with_reducible assumption)) | go_size)); (first | done | fail)))).keeps hk5; have HK := (HK.drew).trans hk5)
      | (go_at_call 37; refine (mlen (M.keeps (by ((repeat' (first | (with_reducible exact Keeps.refl _) | (with_reducible assumption) | (with_reducible refine Keeps.drewN ?_ _) | (with_reducible refine Keeps.drew ?_) | (with_reducible refine Keeps.alloc ?_ _) | (with_reducible refine Keeps.setCell ?_ ?_ _) | (with_reducible refine Keeps.trans ?_ (After.keeps _)) | (with_reducible refine Keeps.trans ?_ (by with_reducible assumption)) | go_size)); (first | done | fail))))).mono ?_; rintro e w' ⟨rfl, rfl⟩)
      | (go_at_call 8; refine (len_c _ _ _ _ _ _ _).mono ?_; rintro e w' ⟨rfl, hk6⟩; rw [HQ.out]; have HC := HC.keeps hk6; have HK := HK.trans hk6))
  go_wp2
  go_ret2
  exact ⟨rfl, by ((repeat' (first | (with_reducible exact Keeps.refl _) | (with_reducible assumption) | (with_reducible refine Keeps.drewN ?_ _) | (with_reducible refine Keeps.drew ?_) | (with_reducible refine Keeps.alloc ?_ _) | (with_reducible refine Keeps.setCell ?_ ?_ _) | (with_reducible refine Keeps.trans ?_ (After.keeps _)) | (with_reducible refine Keeps.trans ?_ (by with_reducible assumption)) | go_size)); (first | done | fail))⟩
theorem rootsNew_bad (M : Mem w m bb N l cc x) (hm : mayB p k d s c b = false) :
    Calls Tryz.prog 11 #[.pointer (some ⟨m, 0, none⟩), cfgV p k d s c b] w fun e w' => e = .returned (.tuple #[.pointer none, .int .i64 1]) ∧ Keeps w w' := by
  have HM := Lib.hid hm
  clear hm
  go_enter Tryz.func11, Tryz.ntmps11
  go_wp2
  refine wp_named' (fun W1 hW => ?_)
  have HK : Keeps w W1 := by rw [hW]; ((repeat' (first | (with_reducible exact Keeps.refl _) | (with_reducible assumption) | (with_reducible refine Keeps.drewN ?_ _) | (with_reducible refine Keeps.drew ?_) | (with_reducible refine Keeps.alloc ?_ _) | (with_reducible refine Keeps.setCell ?_ ?_ _) | (with_reducible refine Keeps.trans ?_ (After.keeps _)) | (with_reducible refine Keeps.trans ?_ (by with_reducible assumption)) | go_size)); (first | done | fail))
  have HC : Has W1 w.heap.size (cfgA p k d s c b) 24 := by rw [hW]; (apply Has.congr; (focus ((repeat (first | (with_reducible assumption) | (with_reducible exact Has.new _ _ _) | (with_reducible exact Has.new1 _ _ _ _) | (with_reducible exact Has.new2 _ _ _ _ _) | (with_reducible refine Has.newAt ?_; (simp; done)) | (with_reducible apply Has.set) | (with_reducible apply Has.far; (case hn => first | assumption | (simp; done) | (intro e_; simp at e_; omega))) | (with_reducible apply Has.alloc) | (with_reducible apply Has.drewN) | (with_reducible apply Has.drew) | (with_reducible refine Has.keeps ?_ (by with_reducible assumption)))))); (first | rfl | (simp; done)))
  have X0 : ∀ u : After W1, u.world.cell? ⟨w.heap.size, 0, none⟩ = some (.int .i64 p) := fun u => (HC.keeps u.keeps).cell 0
  have X1 : ∀ u : After W1, u.world.cell? ⟨w.heap.size, 1, none⟩ = some (.int .i64 k) := fun u => (HC.keeps u.keeps).cell 1
  have X2 : ∀ u : After W1, u.world.cell? ⟨w.heap.size, 2, none⟩ = some (.int .i64 d) := fun u => (HC.keeps u.keeps).cell 2
  have X3 : ∀ u : After W1, u.world.cell? ⟨w.heap.size, 3, none⟩ = some (.int .i64 s) := fun u => (HC.keeps u.keeps).cell 3
  have X4 : ∀ u : After W1, u.world.cell? ⟨w.heap.size, 4, none⟩ = some (.int .i64 c) := fun u => (HC.keeps u.keeps).cell 4
  have X5 : ∀ u : After W1, u.world.cell? ⟨w.heap.size, 5, none⟩ = some (.int .i64 b) := fun u => (HC.keeps u.keeps).cell 5
  clear hW
  have HMy : ∀ y : World, Calls Tryz.prog 35 #[cfgV p k d s c b] y fun e w' => e = .returned (.bool false) ∧ Keeps y w' := fun y => (may_c p k d s c b y).mono (by rintro e w' ⟨rfl, hk⟩; rw [HM.out]; exact ⟨rfl, hk⟩)
  have HMh := Lib.hid HMy
  clear HMy
  (refine wp_region_after_lit (by kernel_rfl) (by kernel_rfl) ?_; (try simp only [List.append_eq, List.cons_append, List.nil_append]); (repeat (first | go_big_quiet_step (((go_at_call 35; exact calls_after (HMh.out _)))) | ((with_reducible refine wpQuiet_step (fun K hK => ?_)); go_simp; first | (refine hK _ ?_; clear hK K) | (apply Exists.intro; refine ⟨fun _ => ?_, hK _ ?_⟩; ((go_at_call 35; exact calls_after (HMh.out _))); clear hK K) | (refine ⟨.bool false, fun _ => ?_, hK _ ?_⟩; (simp; done); clear hK K) | (refine ⟨.bool true, fun _ => ?_, hK _ ?_⟩; (simp; done); clear hK K)))); refine wpQuiet_nil ?_; intro _ hw'; obtain ⟨uq, hw''⟩ := hw'; subst hw'')
  go_wp2
  go_ret2
  exact ⟨rfl, HK.trans uq.keeps⟩
end
end Go.Proofs.YtaecapjicphdkaaGreat
