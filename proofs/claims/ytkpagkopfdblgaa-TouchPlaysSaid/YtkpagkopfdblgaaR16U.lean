/- The document's Touch (layer 16), walked. -/
import Derived.Test.YtkpagkopfdblgaaLayD
import Derived.Test.YtkpagkopfdblgaaR11W
import Derived.Test.YtkpagkopfdblgaaRMem
import Derived.Test.YtkpagkopfdblgaaTouchD
namespace Go.Proofs.Ytkpagkopfdblgaa
set_option linter.unusedVariables false
set_option linter.unusedSimpArgs false
open Go Go.RowKit
set_option maxRecDepth 100000
set_option maxHeartbeats 1000000
theorem rword_c (p k d s c b u i : Int) (w : World) : Calls Try.prog 65 #[.agg #[.int .i64 p, .int .i64 k, .int .i64 d, .int .i64 s, .int .i64 c, .int .i64 b], .int .i64 u, .int .i64 i] w fun e w' => e = .returned (.int .i64 (wordI p k d s c b u i)) ∧ Keeps w w' := by
  cases h : mayB p k d s c b with
  | false =>
    have e : wordI p k d s c b u i = -1 := if_neg (by rw [h]; simp)
    rw [e]
    have H := Lib.hid h
    clear h e
    have Z := Live.nil w.heap.size
    go_enter Try.func65, Try.ntmps65
    go_wp2_with (go_at_call 99; refine (rmay_c _ _ _ _ _ _ _).mono ?_; rintro e w' ⟨rfl, h1⟩; rw [H.out]; have hc_ := fun (b o : Nat) (hb : b < _) => (h1).cell (b := b) (o := o) hb; have hf_ := fun (b o : Nat) (hb : b < _) => (h1).frozen (b := b) (o := o) hb; have hs_ := (h1).size; (try simp only [World.size_alloc, World.heap_drewN, World.size_drew, World.size_setCell] at hs_); (first | (with_reducible replace Z := Live.step0 Z hs_) | (with_reducible replace Z := Live.step1 Z hs_) | (with_reducible replace Z := Live.step2 Z hs_) | (with_reducible replace Z := Live.step3 Z hs_) | (with_reducible replace Z := Live.step4 Z hs_)); have z_ := Z; simp only [Live, List.forall_mem_cons, List.not_mem_nil, false_imp_iff, implies_true, and_true] at z_)
    go_ret
    exact ⟨rfl, by ((repeat' (first | (with_reducible exact Keeps.refl _) | (with_reducible assumption) | (with_reducible refine Keeps.drewN ?_ _) | (with_reducible refine Keeps.drew ?_) | (with_reducible refine Keeps.alloc ?_ _) | (with_reducible refine Keeps.setCell ?_ ?_ _) | (with_reducible refine Keeps.trans ?_ (After.keeps _)) | (with_reducible refine Keeps.trans ?_ (by with_reducible assumption)) | go_size)); (first | done | fail))⟩
  | true =>
    obtain ⟨⟨p0, p1⟩, ⟨k0, k1⟩, ⟨d0, d1⟩, -, ⟨s0, s1⟩, ⟨c0, c1⟩, b0, b1⟩ := mayB_true.1 h
    obtain ⟨q0, q1⟩ := prod_bd k0 k1 d0 d1
    by_cases hu : 0 ≤ u ∧ u < k ∧ 0 ≤ i ∧ i < d
    · obtain ⟨u0, u1, i0, i1⟩ := hu
      obtain ⟨x0, x1⟩ := word_bd u0 u1 (show 0 ≤ d by omega) i0 i1
      have e : wordI p k d s c b u i = 3 + p + 2 * s + k + u * d + i := if_pos ⟨h, u0, u1, i0, i1⟩
      rw [e]
      have H := Lib.hid h
      clear h e
      have Z := Live.nil w.heap.size
      go_enter Try.func65, Try.ntmps65
      go_wp2_with (go_at_call 99; refine (rmay_c _ _ _ _ _ _ _).mono ?_; rintro e w' ⟨rfl, h1⟩; rw [H.out]; have hc_ := fun (b o : Nat) (hb : b < _) => (h1).cell (b := b) (o := o) hb; have hf_ := fun (b o : Nat) (hb : b < _) => (h1).frozen (b := b) (o := o) hb; have hs_ := (h1).size; (try simp only [World.size_alloc, World.heap_drewN, World.size_drew, World.size_setCell] at hs_); (first | (with_reducible replace Z := Live.step0 Z hs_) | (with_reducible replace Z := Live.step1 Z hs_) | (with_reducible replace Z := Live.step2 Z hs_) | (with_reducible replace Z := Live.step3 Z hs_) | (with_reducible replace Z := Live.step4 Z hs_)); have z_ := Z; simp only [Live, List.forall_mem_cons, List.not_mem_nil, false_imp_iff, implies_true, and_true] at z_)
      go_ret
      exact ⟨rfl, by ((repeat' (first | (with_reducible exact Keeps.refl _) | (with_reducible assumption) | (with_reducible refine Keeps.drewN ?_ _) | (with_reducible refine Keeps.drew ?_) | (with_reducible refine Keeps.alloc ?_ _) | (with_reducible refine Keeps.setCell ?_ ?_ _) | (with_reducible refine Keeps.trans ?_ (After.keeps _)) | (with_reducible refine Keeps.trans ?_ (by with_reducible assumption)) | go_size)); (first | done | fail))⟩
    · have e : wordI p k d s c b u i = -1 := if_neg (by rintro ⟨_, a, b, c, d⟩; exact hu ⟨a, b, c, d⟩)
      rw [e]
      have H := Lib.hid h
      clear h e
      have Z := Live.nil w.heap.size
      go_enter Try.func65, Try.ntmps65
      go_wp2_with (go_at_call 99; refine (rmay_c _ _ _ _ _ _ _).mono ?_; rintro e w' ⟨rfl, h1⟩; rw [H.out]; have hc_ := fun (b o : Nat) (hb : b < _) => (h1).cell (b := b) (o := o) hb; have hf_ := fun (b o : Nat) (hb : b < _) => (h1).frozen (b := b) (o := o) hb; have hs_ := (h1).size; (try simp only [World.size_alloc, World.heap_drewN, World.size_drew, World.size_setCell] at hs_); (first | (with_reducible replace Z := Live.step0 Z hs_) | (with_reducible replace Z := Live.step1 Z hs_) | (with_reducible replace Z := Live.step2 Z hs_) | (with_reducible replace Z := Live.step3 Z hs_) | (with_reducible replace Z := Live.step4 Z hs_)); have z_ := Z; simp only [Live, List.forall_mem_cons, List.not_mem_nil, false_imp_iff, implies_true, and_true] at z_)
      all_goals first | (exfalso; omega) | (go_ret; exact ⟨rfl, by ((repeat' (first | (with_reducible exact Keeps.refl _) | (with_reducible assumption) | (with_reducible refine Keeps.drewN ?_ _) | (with_reducible refine Keeps.drew ?_) | (with_reducible refine Keeps.alloc ?_ _) | (with_reducible refine Keeps.setCell ?_ ?_ _) | (with_reducible refine Keeps.trans ?_ (After.keeps _)) | (with_reducible refine Keeps.trans ?_ (by with_reducible assumption)) | go_size)); (first | done | fail))⟩)

section
variable {w : World} {W g bb N : Nat} {i : Nat} {l : List Int} {cc : Int} {v to_ o : Int} {kind : Int} {p K d s c b : Int} {Pl Sp E : Value}
theorem rtouch_c (u j : Int) (hW : Has w W (rwOf p K d s c b g Pl Sp E) 118) (M : RMem w g bb N l cc) (hk : kind = 6 ∨ kind = 7 ∨ kind = 8 ∨ kind = 9) (hq : wordI p K d s c b u j = i) (ho : l[i]? = some o) (hcc : cc < 4611686018427387903) :
    Calls Try.prog 66 #[.pointer (some ⟨W, 0, none⟩), .int .i64 kind, .int .i64 u, .int .i64 j, .int .u64 v, .int .u64 to_] w fun e w' => e = .returned (resV (tN kind o v) (tV kind o)) ∧ Upd [g, bb] w w' ∧ RMem w' g bb N (tMem kind l i o v to_) (cc + 1) := by
  have HQ := Lib.hid hq
  have HO := Lib.hid ho
  clear hq ho
  have FX_ := (hW).facts; simp only [blockFacts, listFacts, cellsAt, Nat.reduceAdd, and_true, true_and, and_assoc, rwOf] at FX_
  have HR := Has.new w #[.int .i64 0, .int .i64 0, .int .i64 0, .int .i64 0, .int .i64 0, .int .i64 0, .int .i64 0, .int .u64 0] 101
  have MR := M.alloc (.cells #[.int .i64 0, .int .i64 0, .int .i64 0, .int .i64 0, .int .i64 0, .int .i64 0, .int .i64 0, .int .u64 0] 101)
  have nRg := Has.ne HR MR.hg (by decide)
  have nRb := Has.ne HR MR.hb (by decide)
  rcases hk with rfl | rfl | rfl | rfl
  · go_enter Try.func66, Try.ntmps66
    go_wp2_with (first
      | (go_at_call 65; refine (rword_c _ _ _ _ _ _ _ _ _).mono ?_; rintro e w' ⟨rfl, h1⟩; rw [HQ.out]; have MK : RMem w' g bb N l cc := M.keeps (Keeps.trans (by ((repeat' (first | (with_reducible exact Keeps.refl _) | (with_reducible assumption) | (with_reducible refine Keeps.drewN ?_ _) | (with_reducible refine Keeps.drew ?_) | (with_reducible refine Keeps.alloc ?_ _) | (with_reducible refine Keeps.setCell ?_ ?_ _) | (with_reducible refine Keeps.trans ?_ (After.keeps _)) | (with_reducible refine Keeps.trans ?_ (by with_reducible assumption)) | go_size)); (first | done | fail))) h1); have HR := HR.keeps h1; have K1 := ((Keeps.refl w).alloc (.cells #[.int .i64 0, .int .i64 0, .int .i64 0, .int .i64 0, .int .i64 0, .int .i64 0, .int .i64 0, .int .u64 0] 101)).trans h1; have hW1 := hW.keeps K1; have FX_ := (hW1).facts; simp only [blockFacts, listFacts, cellsAt, Nat.reduceAdd, and_true, true_and, and_assoc, rwOf] at FX_)
      | (go_at_call 36; refine (rmload MK i HO.out hcc).mono ?_; rintro e w' ⟨rfl, hu, M2⟩; have HR := HR.upd hu (by simp; exact ⟨nRg, nRb⟩); have FX_ := (HR).facts; simp only [blockFacts, listFacts, cellsAt, Nat.reduceAdd, and_true, true_and, and_assoc] at FX_))
    refine bodyPost_ret (v := resV (tN 6 o v) (tV 6 o)) (by simp [results, Try.results66, go_sem, FX_, tN, tV]) rfl ?_
    generalize hWf : World.setCell _ _ _ = Wf
    have hS : Upd [w.heap.size] w' Wf := by rw [← hWf]; (repeat (first | (with_reducible exact Upd.refl _ _) | (with_reducible assumption) | (with_reducible refine Upd.setCell ?_ (by first | (left; simp; done) | (right; go_size)) _) | (with_reducible refine Upd.alloc ?_ _) | (with_reducible refine Upd.drewN ?_ _) | (with_reducible refine Upd.drew ?_)))
    refine ⟨rfl, ((Upd.of_keeps K1).trans hu).past hS (by intro y hy; simp only [List.mem_cons, List.not_mem_nil, or_false] at hy; right; omega), ?_⟩
    have e1 : tMem 6 l i o v to_ = l := by simp [tMem]
    rw [e1]
    exact M2.upd hS (by simp; exact fun e => nRg e.symm) (by simp; exact fun e => nRb e.symm)
  · go_enter Try.func66, Try.ntmps66
    go_wp2_with (first
      | (go_at_call 65; refine (rword_c _ _ _ _ _ _ _ _ _).mono ?_; rintro e w' ⟨rfl, h1⟩; rw [HQ.out]; have MK : RMem w' g bb N l cc := M.keeps (Keeps.trans (by ((repeat' (first | (with_reducible exact Keeps.refl _) | (with_reducible assumption) | (with_reducible refine Keeps.drewN ?_ _) | (with_reducible refine Keeps.drew ?_) | (with_reducible refine Keeps.alloc ?_ _) | (with_reducible refine Keeps.setCell ?_ ?_ _) | (with_reducible refine Keeps.trans ?_ (After.keeps _)) | (with_reducible refine Keeps.trans ?_ (by with_reducible assumption)) | go_size)); (first | done | fail))) h1); have HR := HR.keeps h1; have K1 := ((Keeps.refl w).alloc (.cells #[.int .i64 0, .int .i64 0, .int .i64 0, .int .i64 0, .int .i64 0, .int .i64 0, .int .i64 0, .int .u64 0] 101)).trans h1; have hW1 := hW.keeps K1; have FX_ := (hW1).facts; simp only [blockFacts, listFacts, cellsAt, Nat.reduceAdd, and_true, true_and, and_assoc, rwOf] at FX_)
      | (go_at_call 38; refine (rmstore MK i v HO.out hcc).mono ?_; rintro e w' ⟨rfl, hu, M2⟩; have HR := HR.upd hu (by simp; exact ⟨nRg, nRb⟩); have FX_ := (HR).facts; simp only [blockFacts, listFacts, cellsAt, Nat.reduceAdd, and_true, true_and, and_assoc] at FX_))
    refine bodyPost_ret (v := resV (tN 7 o v) (tV 7 o)) (by simp [results, Try.results66, go_sem, FX_, tN, tV]) rfl ?_
    generalize hWf : World.setCell _ _ _ = Wf
    have hS : Upd [w.heap.size] w' Wf := by rw [← hWf]; (repeat (first | (with_reducible exact Upd.refl _ _) | (with_reducible assumption) | (with_reducible refine Upd.setCell ?_ (by first | (left; simp; done) | (right; go_size)) _) | (with_reducible refine Upd.alloc ?_ _) | (with_reducible refine Upd.drewN ?_ _) | (with_reducible refine Upd.drew ?_)))
    refine ⟨rfl, ((Upd.of_keeps K1).trans hu).past hS (by intro y hy; simp only [List.mem_cons, List.not_mem_nil, or_false] at hy; right; omega), ?_⟩
    have e1 : tMem 7 l i o v to_ = l.set i v := by simp [tMem]
    rw [e1]
    exact M2.upd hS (by simp; exact fun e => nRg e.symm) (by simp; exact fun e => nRb e.symm)
  · go_enter Try.func66, Try.ntmps66
    go_wp2_with (first
      | (go_at_call 65; refine (rword_c _ _ _ _ _ _ _ _ _).mono ?_; rintro e w' ⟨rfl, h1⟩; rw [HQ.out]; have MK : RMem w' g bb N l cc := M.keeps (Keeps.trans (by ((repeat' (first | (with_reducible exact Keeps.refl _) | (with_reducible assumption) | (with_reducible refine Keeps.drewN ?_ _) | (with_reducible refine Keeps.drew ?_) | (with_reducible refine Keeps.alloc ?_ _) | (with_reducible refine Keeps.setCell ?_ ?_ _) | (with_reducible refine Keeps.trans ?_ (After.keeps _)) | (with_reducible refine Keeps.trans ?_ (by with_reducible assumption)) | go_size)); (first | done | fail))) h1); have HR := HR.keeps h1; have K1 := ((Keeps.refl w).alloc (.cells #[.int .i64 0, .int .i64 0, .int .i64 0, .int .i64 0, .int .i64 0, .int .i64 0, .int .i64 0, .int .u64 0] 101)).trans h1; have hW1 := hW.keeps K1; have FX_ := (hW1).facts; simp only [blockFacts, listFacts, cellsAt, Nat.reduceAdd, and_true, true_and, and_assoc, rwOf] at FX_)
      | (go_at_call 42; refine (rmadd MK i v HO.out hcc).mono ?_; rintro e w' ⟨rfl, hu, M2⟩; have HR := HR.upd hu (by simp; exact ⟨nRg, nRb⟩); have FX_ := (HR).facts; simp only [blockFacts, listFacts, cellsAt, Nat.reduceAdd, and_true, true_and, and_assoc] at FX_))
    refine bodyPost_ret (v := resV (tN 8 o v) (tV 8 o)) (by simp [results, Try.results66, go_sem, FX_, tN, tV]) rfl ?_
    generalize hWf : World.setCell _ _ _ = Wf
    have hS : Upd [w.heap.size] w' Wf := by rw [← hWf]; (repeat (first | (with_reducible exact Upd.refl _ _) | (with_reducible assumption) | (with_reducible refine Upd.setCell ?_ (by first | (left; simp; done) | (right; go_size)) _) | (with_reducible refine Upd.alloc ?_ _) | (with_reducible refine Upd.drewN ?_ _) | (with_reducible refine Upd.drew ?_)))
    refine ⟨rfl, ((Upd.of_keeps K1).trans hu).past hS (by intro y hy; simp only [List.mem_cons, List.not_mem_nil, or_false] at hy; right; omega), ?_⟩
    have e1 : tMem 8 l i o v to_ = l.set i (IntKind.u64.wrap (o + v)) := by simp [tMem]
    rw [e1]
    exact M2.upd hS (by simp; exact fun e => nRg e.symm) (by simp; exact fun e => nRb e.symm)
  · by_cases hov : o = v
    · subst hov
      go_enter Try.func66, Try.ntmps66
      go_wp2_with (first
        | (go_at_call 65; refine (rword_c _ _ _ _ _ _ _ _ _).mono ?_; rintro e w' ⟨rfl, h1⟩; rw [HQ.out]; have MK : RMem w' g bb N l cc := M.keeps (Keeps.trans (by ((repeat' (first | (with_reducible exact Keeps.refl _) | (with_reducible assumption) | (with_reducible refine Keeps.drewN ?_ _) | (with_reducible refine Keeps.drew ?_) | (with_reducible refine Keeps.alloc ?_ _) | (with_reducible refine Keeps.setCell ?_ ?_ _) | (with_reducible refine Keeps.trans ?_ (After.keeps _)) | (with_reducible refine Keeps.trans ?_ (by with_reducible assumption)) | go_size)); (first | done | fail))) h1); have HR := HR.keeps h1; have K1 := ((Keeps.refl w).alloc (.cells #[.int .i64 0, .int .i64 0, .int .i64 0, .int .i64 0, .int .i64 0, .int .i64 0, .int .i64 0, .int .u64 0] 101)).trans h1; have hW1 := hW.keeps K1; have FX_ := (hW1).facts; simp only [blockFacts, listFacts, cellsAt, Nat.reduceAdd, and_true, true_and, and_assoc, rwOf] at FX_)
        | (go_at_call 40; refine (rmcas_eq MK i to_ HO.out hcc).mono ?_; rintro e w' ⟨rfl, hu, M2⟩; have HR := HR.upd hu (by simp; exact ⟨nRg, nRb⟩); have FX_ := (HR).facts; simp only [blockFacts, listFacts, cellsAt, Nat.reduceAdd, and_true, true_and, and_assoc] at FX_))
      refine bodyPost_ret (v := resV (tN 9 o o) (tV 9 o)) (by simp [results, Try.results66, go_sem, FX_, tN, tV]) rfl ?_
      generalize hWf : World.setCell _ _ _ = Wf
      have hS : Upd [w.heap.size] w' Wf := by rw [← hWf]; (repeat (first | (with_reducible exact Upd.refl _ _) | (with_reducible assumption) | (with_reducible refine Upd.setCell ?_ (by first | (left; simp; done) | (right; go_size)) _) | (with_reducible refine Upd.alloc ?_ _) | (with_reducible refine Upd.drewN ?_ _) | (with_reducible refine Upd.drew ?_)))
      refine ⟨rfl, ((Upd.of_keeps K1).trans hu).past hS (by intro y hy; simp only [List.mem_cons, List.not_mem_nil, or_false] at hy; right; omega), ?_⟩
      have e1 : tMem 9 l i o o to_ = l.set i to_ := by simp [tMem]
      rw [e1]
      exact M2.upd hS (by simp; exact fun e => nRg e.symm) (by simp; exact fun e => nRb e.symm)
    · have hov' : (o != v) = true := by simpa using hov
      have HV := Lib.hid hov
      clear hov
      go_enter Try.func66, Try.ntmps66
      go_wp2_with (first
        | (go_at_call 65; refine (rword_c _ _ _ _ _ _ _ _ _).mono ?_; rintro e w' ⟨rfl, h1⟩; rw [HQ.out]; have MK : RMem w' g bb N l cc := M.keeps (Keeps.trans (by ((repeat' (first | (with_reducible exact Keeps.refl _) | (with_reducible assumption) | (with_reducible refine Keeps.drewN ?_ _) | (with_reducible refine Keeps.drew ?_) | (with_reducible refine Keeps.alloc ?_ _) | (with_reducible refine Keeps.setCell ?_ ?_ _) | (with_reducible refine Keeps.trans ?_ (After.keeps _)) | (with_reducible refine Keeps.trans ?_ (by with_reducible assumption)) | go_size)); (first | done | fail))) h1); have HR := HR.keeps h1; have K1 := ((Keeps.refl w).alloc (.cells #[.int .i64 0, .int .i64 0, .int .i64 0, .int .i64 0, .int .i64 0, .int .i64 0, .int .i64 0, .int .u64 0] 101)).trans h1; have hW1 := hW.keeps K1; have FX_ := (hW1).facts; simp only [blockFacts, listFacts, cellsAt, Nat.reduceAdd, and_true, true_and, and_assoc, rwOf] at FX_)
        | (go_at_call 40; refine (rmcas_ne MK i v to_ HO.out hcc hov').mono ?_; rintro e w' ⟨rfl, hu, M2⟩; have HR := HR.upd hu (by simp; exact ⟨nRg, nRb⟩); have FX_ := (HR).facts; simp only [blockFacts, listFacts, cellsAt, Nat.reduceAdd, and_true, true_and, and_assoc] at FX_))
      refine bodyPost_ret (v := resV (tN 9 o v) (tV 9 o)) (by simp [results, Try.results66, go_sem, FX_, tN, tV, HV.out]) rfl ?_
      generalize hWf : World.setCell _ _ _ = Wf
      have hS : Upd [w.heap.size] w' Wf := by rw [← hWf]; (repeat (first | (with_reducible exact Upd.refl _ _) | (with_reducible assumption) | (with_reducible refine Upd.setCell ?_ (by first | (left; simp; done) | (right; go_size)) _) | (with_reducible refine Upd.alloc ?_ _) | (with_reducible refine Upd.drewN ?_ _) | (with_reducible refine Upd.drew ?_)))
      refine ⟨rfl, ((Upd.of_keeps K1).trans hu).past hS (by intro y hy; simp only [List.mem_cons, List.not_mem_nil, or_false] at hy; right; omega), ?_⟩
      have e1 : tMem 9 l i o v to_ = l := by simp [tMem, HV.out]
      rw [e1]
      exact M2.upd hS (by simp; exact fun e => nRg e.symm) (by simp; exact fun e => nRb e.symm)
end
end Go.Proofs.Ytkpagkopfdblgaa
