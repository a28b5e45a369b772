/- A touch by itself, walked. -/
import Derived.Test.YtkpagkopfdblgaaTouchN
namespace Go.Proofs.Ytkpagkopfdblgaa
set_option linter.unusedVariables false
set_option linter.unusedSimpArgs false
open Go Go.RowKit
set_option maxRecDepth 100000
set_option maxHeartbeats 1000000

theorem Upd.past {S T : List Nat} {a b c : World} (h : Upd S a b) (k : Upd T b c) (hT : ∀ x ∈ T, x ∈ S ∨ a.heap.size ≤ x) : Upd S a c :=
  ⟨k.os.trans h.os, k.tape.trans h.tape, k.output.trans h.output, Nat.le_trans h.size k.size, fun i hi hn => (k.block i (Nat.lt_of_lt_of_le hi h.size) (fun hx => by rcases hT i hx with h1 | h1; exact hn h1; omega)).trans (h.block i hi hn)⟩
/-- What a Touch answers: how many it exchanged; what it saw. -/
def tN (kind o v : Int) : Int := if kind = 9 ∧ o = v then 1 else 0
def tV (kind o : Int) : Int := if kind = 6 ∨ kind = 8 then o else 0
def tMem (kind : Int) (l : List Int) (i : Nat) (o v to_ : Int) : List Int :=
  if kind = 7 then l.set i v else if kind = 8 then l.set i (IntKind.u64.wrap (o + v)) else if kind = 9 ∧ o = v then l.set i to_ else l
abbrev resV (N V : Int) : Value := .agg #[.int .i64 0, .int .i64 0, .int .i64 0, .int .i64 0, .int .i64 0, .int .i64 0, .int .i64 N, .int .u64 V]
section
variable {w : World} {m bb N : Nat} {i : Nat} {l : List Int} {cc : Int} {x : Acc} {g : Nat} {c v to_ o : Int} {kind : Int}
theorem touchStep_c (hg : Has w g (touchOf (bound (touchNx kind) g) c m i v to_ 0 0) 157) (M : Mem w m bb N l cc x) (hk : kind = 6 ∨ kind = 7 ∨ kind = 8 ∨ kind = 9) (ho : l[i]? = some o) (c0 : 0 ≤ c) (c1 : c < 1000) (hcc : cc < 4611686018427387903) :
    Calls Try.prog 61 #[.pointer (some ⟨g, 0, none⟩)] w fun e w' => e = .returned (.bool true) ∧ Upd [g, m, bb] w w' ∧ Has w' g (touchOf .nilFunc (c + 1) m i v to_ (tN kind o v) (tV kind o)) 157 ∧
      ∃ x', Mem w' m bb N (tMem kind l i o v to_) (cc + 1) x' ∧ x'.at_ = i := by
  have ngm : m ≠ g := (Has.ne hg M.hg (by decide)).symm
  have ngb : bb ≠ g := (Has.ne hg M.hb (by decide)).symm
  rcases hk with rfl | rfl | rfl | rfl
  · refine tStep_of (mstep_c entr_tLoad hg c0 (by omega) (fun w1 hu h1 => ?_))
    have M1 := M.upd hu (by simp; exact ngm) (by simp; exact ngb)
    refine (touchLoad_c h1 M1 ho hcc).mono ?_
    rintro e w' ⟨rfl, hu2, h2, M2⟩
    exact ⟨rfl, (hu.mono (by simp)).trans hu2, h2, _, M2, rfl⟩
  · refine tStep_of (mstep_c entr_tStore hg c0 (by omega) (fun w1 hu h1 => ?_))
    have M1 := M.upd hu (by simp; exact ngm) (by simp; exact ngb)
    refine (touchStore_c h1 M1 ho hcc).mono ?_
    rintro e w' ⟨rfl, hu2, h2, M2⟩
    exact ⟨rfl, (hu.mono (by simp)).trans hu2, h2, _, M2, rfl⟩
  · refine tStep_of (mstep_c entr_tAdd hg c0 (by omega) (fun w1 hu h1 => ?_))
    have M1 := M.upd hu (by simp; exact ngm) (by simp; exact ngb)
    refine (touchAdd_c h1 M1 ho hcc).mono ?_
    rintro e w' ⟨rfl, hu2, h2, M2⟩
    exact ⟨rfl, (hu.mono (by simp)).trans hu2, h2, _, M2, rfl⟩
  · refine tStep_of (mstep_c entr_tCas hg c0 (by omega) (fun w1 hu h1 => ?_))
    have M1 := M.upd hu (by simp; exact ngm) (by simp; exact ngb)
    by_cases h : o = v
    · subst h
      refine (touchCas_eq h1 M1 ho hcc).mono ?_
      rintro e w' ⟨rfl, hu2, h2, M2⟩
      refine ⟨rfl, (hu.mono (by simp)).trans hu2, ?_, ⟨3, i, o, to_, true⟩, ?_, rfl⟩
      · have e1 : tN 9 o o = 1 := by simp [tN]
        have e2 : tV 9 o = 0 := by simp [tV]
        rw [e1, e2]; exact h2
      · have e1 : tMem 9 l i o o to_ = l.set i to_ := by simp [tMem]
        rw [e1]; exact M2
    · refine (touchCas_ne h1 M1 ho h hcc).mono ?_
      rintro e w' ⟨rfl, hu2, h2, M2⟩
      refine ⟨rfl, (hu.mono (by simp)).trans hu2, ?_, ⟨3, i, o, o, false⟩, ?_, rfl⟩
      · have e1 : tN 9 o v = 0 := by simp [tN, h]
        have e2 : tV 9 o = 0 := by simp [tV]
        rw [e1, e2]; exact h2
      · have e1 : tMem 9 l i o v to_ = l := by simp [tMem, h]
        rw [e1]; exact M2
theorem tDone_bound {f : Nat} {at_ N V : Int} (hg : Has w g (touchOf (bound f g) c m at_ v to_ N V) 157) :
    Calls Try.prog 60 #[.pointer (some ⟨g, 0, none⟩)] w fun e w' => e = .returned (.bool false) ∧ w = w' :=
  tDone_of ((mdone_c (o := some f) hg).mono (by rintro e w' ⟨rfl, rfl⟩; exact ⟨rfl, rfl⟩))
theorem tDone_nil {at_ N V : Int} (hg : Has w g (touchOf .nilFunc c m at_ v to_ N V) 157) :
    Calls Try.prog 60 #[.pointer (some ⟨g, 0, none⟩)] w fun e w' => e = .returned (.bool true) ∧ w = w' :=
  tDone_of ((mdone_c (o := none) hg).mono (by rintro e w' ⟨rfl, rfl⟩; exact ⟨rfl, rfl⟩))
theorem tStep_nil {at_ N V : Int} (hg : Has w g (touchOf .nilFunc c m at_ v to_ N V) 157) :
    Calls Try.prog 61 #[.pointer (some ⟨g, 0, none⟩)] w fun e w' => e = .returned (.bool false) ∧ w = w' :=
  tStep_of ((mstep_nil hg).mono (by rintro e w' ⟨rfl, rfl⟩; exact ⟨rfl, rfl⟩))
theorem tdoes_c {Wd : Nat} {p k d s cz b : Int} (u j : Int) (hW : Has w Wd (wordsOf m p k d s cz b) 155) (M : Mem w m bb N l cc x) (hk : kind = 6 ∨ kind = 7 ∨ kind = 8 ∨ kind = 9) (hq : wordI p k d s cz b u j = i) (ho : l[i]? = some o) (hcc : cc < 4611686018427387903) :
    Calls Try.prog 59 #[.pointer (some ⟨Wd, 0, none⟩), .int .i64 kind, .int .i64 u, .int .i64 j, .int .u64 v, .int .u64 to_] w fun e w' =>
      e = .returned (.tuple #[resV (tN kind o v) (tV kind o), .bool true]) ∧ Upd [m, bb] w w' ∧ Has w' Wd (wordsOf m p k d s cz b) 155 ∧ ∃ x', Mem w' m bb N (tMem kind l i o v to_) (cc + 1) x' ∧ x'.at_ = i := by
  have HO := Lib.hid ho
  have HQ := Lib.hid hq
  have HK := Lib.hid hk
  have nW : Wd ∉ [m, bb] := by simp only [List.mem_cons, List.not_mem_nil, or_false, not_or]; exact ⟨hW.ne M.hg (by decide), hW.ne M.hb (by decide)⟩
  have HW := hW
  have hsz := hW.lt
  clear ho hq hk
  have t0 : True := trivial
  have t1 : True := trivial
  have t2 : True := trivial
  go_enter Try.func59, Try.ntmps59
  go_wp2_with (first
    | (go_at_call 58; refine (mkTouch_c _ _ _ _ _ _ (HW.keeps (by ((repeat' (first | (with_reducible exact Keeps.refl _) | (with_reducible assumption) | (with_reducible refine Keeps.drewN ?_ _) | (with_reducible refine Keeps.drew ?_) | (with_reducible refine Keeps.alloc ?_ _) | (with_reducible refine Keeps.setCell ?_ ?_ _) | (with_reducible refine Keeps.trans ?_ (After.keeps _)) | (with_reducible refine Keeps.trans ?_ (by with_reducible assumption)) | go_size)); (first | done | fail)))) HK.out HQ.out (by omega)).mono ?_; rintro e w' ⟨g, rfl, hk1, hgs, HG⟩; have HR := (Has.new w #[.int .i64 0, .int .i64 0, .int .i64 0, .int .i64 0, .int .i64 0, .int .i64 0, .int .i64 0, .int .u64 0] 101).keeps hk1; have K1 := ((Keeps.refl w).alloc _).trans hk1; have HW := HW.keeps K1; have M := M.keeps K1; have U1 := Upd.of_keeps (S := [m, bb]) K1; have hgw : w.heap.size ≤ g := (by have := hgs; simp at this; omega); have nRg := Has.ne HR HG (by decide); have nRm := Has.ne HR M.hg (by decide); have nRb := Has.ne HR M.hb (by decide); have nWg := Has.ne HW HG (by decide); have nWm := Has.ne HW M.hg (by decide); have nWb := Has.ne HW M.hb (by decide); have nRw := Has.ne HR HW (by decide))
    | (go_at_call 60; have t_ := t0; clear t_ t0; refine (tDone_bound HG).mono ?_; rintro e w' ⟨rfl, rfl⟩)
    | (go_at_call 61; have t_ := t1; clear t_ t1; refine (touchStep_c HG M HK.out HO.out (by omega) (by omega) hcc).mono ?_; rintro e w' ⟨rfl, hu, HG, x2, M, hx2⟩; have U1 := U1.past hu (by intro y hy; simp only [List.mem_cons, List.not_mem_nil, or_false] at hy ⊢; rcases hy with rfl | rfl | rfl; (right; exact hgw); (left; left; rfl); (left; right; rfl)); have HR := HR.upd hu (by simp only [List.mem_cons, List.not_mem_nil, or_false, not_or]; exact ⟨nRg, nRm, nRb⟩); have HW := HW.upd hu (by simp only [List.mem_cons, List.not_mem_nil, or_false, not_or]; exact ⟨nWg, nWm, nWb⟩))
    | (go_at_call 60; have t_ := t2; clear t_ t2; refine (tDone_nil HG).mono ?_; rintro e w' ⟨rfl, rfl⟩)
    | (go_at_call 61; refine (tStep_nil HG).mono ?_; rintro e w' ⟨rfl, rfl⟩)
    | (go_at_call 62; refine (res_c HG).mono ?_; rintro e w' ⟨rfl, hk2⟩; have HG := HG.keeps hk2; have HR := HR.keeps hk2; have HW := HW.keeps hk2; have M := M.keeps hk2; have U1 := U1.trans (Upd.of_keeps hk2); have FX_ := (HR).facts; simp only [blockFacts, listFacts, cellsAt, Nat.reduceAdd, and_true, true_and, and_assoc] at FX_))
  refine bodyPost_ret (v := .tuple #[resV (tN kind o v) (tV kind o), .bool true]) (by simp [results, Try.results59, go_sem, FX_]) rfl ?_
  generalize hWf : World.setCell _ _ _ = Wf
  have hS : Upd [w.heap.size] w' Wf := by rw [← hWf]; (repeat (first | (with_reducible exact Upd.refl _ _) | (with_reducible assumption) | (with_reducible refine Upd.setCell ?_ (by first | (left; simp; done) | (right; go_size)) _) | (with_reducible refine Upd.alloc ?_ _) | (with_reducible refine Upd.drewN ?_ _) | (with_reducible refine Upd.drew ?_)))
  refine ⟨rfl, U1.past hS (by intro y hy; simp only [List.mem_cons, List.not_mem_nil, or_false] at hy; right; omega), HW.upd hS (by simp; exact fun e => nRw e.symm), _, M.upd hS (by simp; exact fun e => nRm e.symm) (by simp; exact fun e => nRb e.symm), hx2⟩
end
end Go.Proofs.Ytkpagkopfdblgaa
