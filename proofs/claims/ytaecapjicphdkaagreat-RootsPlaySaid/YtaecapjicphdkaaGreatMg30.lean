/- End and Look (layer 11) as plain machines: one contract for the Step of each. -/
import Derived.Test.YtaecapjicphdkaaGreatMg27
namespace Go.Proofs.YtaecapjicphdkaaGreat
set_option linter.unusedVariables false
set_option linter.unusedSimpArgs false
open Go Go.RowKit
set_option maxRecDepth 100000
set_option maxHeartbeats 1000000

/-- An End's state: what comes next (0 the Load, 1 the Cas, 2 nothing), how many accesses, what it saw, what came of it. -/
structure En where
  ph : Nat
  c : Int
  was : Int
  code : Int
  chunk : Int
  point : Int
def enNx : Nat → Option Nat
  | 0 => some 43
  | 1 => some 80
  | _ => none
def EnRep (w : World) (y R : Nat) (slot gen : Int) (s : En) : Prop := Has w y (endOf (nxt (enNx s.ph) y) s.c R slot gen s.was s.code s.chunk s.point) 117
/-- One access: q its root's cell. -/
def enStep (q : Nat) (gen : Int) (l : List Int) (s : En) : En :=
  match s.ph with
  | 0 => if liveW (l.getD q 0) gen then { s with ph := 1, c := s.c + 1, was := l.getD q 0 } else { s with ph := 2, c := s.c + 1, was := l.getD q 0, code := 3, point := s.c + 1 }
  | 1 => if l.getD q 0 = s.was then { s with ph := 2, c := s.c + 1, chunk := chunkI (s.was / 65536 % 65536), point := s.c + 1 } else { s with ph := 0, c := s.c + 1 }
  | _ => s
def enMem (q : Nat) (l : List Int) (s : En) : List Int :=
  match s.ph with
  | 1 => if l.getD q 0 = s.was then l.set q (rootI (s.was / 4294967296) 0 0 0) else l
  | _ => l
def enCount (s : En) : Int := if s.ph < 2 then 1 else 0
structure EnOk (s : En) : Prop where
  w0 : 0 ≤ s.was
  w1 : s.was < 18446744073709551616
  c0 : 0 ≤ s.c
  c1 : s.c < 1000000
theorem entr_of_none {w : World} {g : Nat} : True := trivial
section
variable {w : World} {R m bb S N : Nat} {l : List Int} {cc : Int} {x : Acc} {p k d sn cz b : Int} {y q : Nat} {slot gen : Int} {s : En}
theorem edStep_c (hg : EnRep w y R slot gen s) (hR : Has w R (rootsOf m p k d sn cz b S) 109) (M : Mem w m bb N l cc x) (hq : crootI p k d sn cz b slot = q) (hlt : q < l.length) (hw : ∀ v ∈ l, 0 ≤ v ∧ v < 18446744073709551616) (H : EnOk s) (hcc : cc < 4611686018427387903) :
    Calls Tryz.prog 52 #[.pointer (some ⟨y, 0, none⟩)] w fun e w' => e = .returned (.bool (decide (s.ph < 2))) ∧ Upd [y, m, bb] w w' ∧ EnRep w' y R slot gen (enStep q gen l s) ∧ ∃ x', Mem w' m bb N (enMem q l s) (cc + enCount s) x' := by
  obtain ⟨ph, c, was, code, chunk, point⟩ := s
  obtain ⟨H1, H2, H3, H4⟩ := H
  dsimp only at *
  have nyR : R ≠ y := (Has.ne hg hR (by decide)).symm
  have nym : m ≠ y := (Has.ne hg M.hg (by decide)).symm
  have nyb : bb ≠ y := (Has.ne hg M.hb (by decide)).symm
  have hwd := hw (l.getD q 0) (by rw [List.getD_eq_getElem?_getD, List.getElem?_eq_getElem hlt]; exact List.getElem_mem hlt)
  match ph, hg with
  | 0, hg =>
    refine edStep_of (mstep_c entr_edLoad hg H3 (show c < 1000000000 by omega) (fun w1 hu h1 => ?_))
    have M1 := M.upd hu (by simp; exact nym) (by simp; exact nyb)
    by_cases hv : liveW (l.getD q 0) gen = true
    · have e1 : enStep q gen l ⟨0, c, was, code, chunk, point⟩ = ⟨1, c + 1, l.getD q 0, code, chunk, point⟩ := if_pos hv
      rw [e1]
      refine (edLoad_g (nx := some 80) (c2 := code) (p2 := point) (fun _ => ⟨rfl, rfl, rfl⟩) (fun h => by rw [hv] at h; cases h) h1 (hR.upd hu (by simp; exact nyR)) M1 hq (getD_some hlt) hwd.1 hwd.2 hcc).mono ?_
      rintro e w2 ⟨rfl, hu2, h2, x', M2⟩
      exact ⟨rfl, (hu.mono (by simp)).trans hu2, h2, x', M2⟩
    · have hv' : liveW (l.getD q 0) gen = false := by simpa using hv
      have e1 : enStep q gen l ⟨0, c, was, code, chunk, point⟩ = ⟨2, c + 1, l.getD q 0, 3, chunk, c + 1⟩ := if_neg hv
      rw [e1]
      refine (edLoad_g (nx := none) (c2 := 3) (p2 := c + 1) (fun h => by rw [hv'] at h; cases h) (fun _ => ⟨rfl, rfl, rfl⟩) h1 (hR.upd hu (by simp; exact nyR)) M1 hq (getD_some hlt) hwd.1 hwd.2 hcc).mono ?_
      rintro e w2 ⟨rfl, hu2, h2, x', M2⟩
      exact ⟨rfl, (hu.mono (by simp)).trans hu2, h2, x', M2⟩
  | 1, hg =>
    refine edStep_of (mstep_c entr_edCas hg H3 (show c < 1000000000 by omega) (fun w1 hu h1 => ?_))
    have M1 := M.upd hu (by simp; exact nym) (by simp; exact nyb)
    by_cases hv : l.getD q 0 = was
    · have e1 : enStep q gen l ⟨1, c, was, code, chunk, point⟩ = ⟨2, c + 1, was, code, chunkI (was / 65536 % 65536), c + 1⟩ := if_pos hv
      have e2 : enMem q l ⟨1, c, was, code, chunk, point⟩ = l.set q (rootI (was / 4294967296) 0 0 0) := if_pos hv
      rw [e1, e2]
      refine (edCas_g (nx := none) (ch2 := chunkI (was / 65536 % 65536)) (p2 := c + 1) (l2 := l.set q (rootI (was / 4294967296) 0 0 0)) (fun _ => ⟨rfl, rfl, rfl, rfl⟩) (fun h => absurd hv h) h1 (hR.upd hu (by simp; exact nyR)) M1 hq (getD_some hlt) H1 H2 hcc).mono ?_
      rintro e w2 ⟨rfl, hu2, h2, x', M2⟩
      exact ⟨rfl, (hu.mono (by simp)).trans hu2, h2, x', M2⟩
    · have e1 : enStep q gen l ⟨1, c, was, code, chunk, point⟩ = ⟨0, c + 1, was, code, chunk, point⟩ := if_neg hv
      have e2 : enMem q l ⟨1, c, was, code, chunk, point⟩ = l := if_neg hv
      rw [e1, e2]
      refine (edCas_g (nx := some 43) (ch2 := chunk) (p2 := point) (l2 := l) (fun h => absurd h hv) (fun _ => ⟨rfl, rfl, rfl, rfl⟩) h1 (hR.upd hu (by simp; exact nyR)) M1 hq (getD_some hlt) H1 H2 hcc).mono ?_
      rintro e w2 ⟨rfl, hu2, h2, x', M2⟩
      exact ⟨rfl, (hu.mono (by simp)).trans hu2, h2, x', M2⟩
  | k + 2, hg =>
    refine edStep_of ((mstep_nil hg).mono ?_)
    rintro e w' ⟨rfl, rfl⟩
    refine ⟨by simp, Upd.refl _ _, hg, x, ?_⟩
    have e1 : enCount ⟨k + 2, c, was, code, chunk, point⟩ = 0 := by unfold enCount; rw [if_neg (show ¬ k + 2 < 2 by omega)]
    rw [e1]
    simpa [enMem] using M
theorem edDone_s (hg : EnRep w y R slot gen s) : Calls Tryz.prog 53 #[.pointer (some ⟨y, 0, none⟩)] w fun e w' => e = .returned (.bool (decide (2 ≤ s.ph))) ∧ w = w' := by
  refine (edDone_c hg).mono ?_
  rintro e w' ⟨rfl, rfl⟩
  refine ⟨?_, rfl⟩
  congr 2
  match s.ph with
  | 0 => rfl
  | 1 => rfl
  | k + 2 => simp [enNx]
theorem lkStep_c {nx : Option Nat} {c code ofs : Int} (hg : Has w y (lookOf (bound 42 y) c R slot gen code ofs) 114) (hR : Has w R (rootsOf m p k d sn cz b S) 109) (M : Mem w m bb N l cc x) (hq : crootI p k d sn cz b slot = q) (hlt : q < l.length) (hw : ∀ v ∈ l, 0 ≤ v ∧ v < 18446744073709551616) (c0 : 0 ≤ c) (c1 : c < 1000000) (hcc : cc < 4611686018427387903) :
    Calls Tryz.prog 21 #[.pointer (some ⟨y, 0, none⟩)] w fun e w' => e = .returned (.bool true) ∧ Upd [y, m, bb] w w' ∧ Has w' y (lookOf .nilFunc (c + 1) R slot gen (if liveW (l.getD q 0) gen then code else 3) (if liveW (l.getD q 0) gen then l.getD q 0 % 4096 else ofs)) 114 ∧ ∃ x', Mem w' m bb N l (cc + 1) x' := by
  have nyR : R ≠ y := (Has.ne hg hR (by decide)).symm
  have nym : m ≠ y := (Has.ne hg M.hg (by decide)).symm
  have nyb : bb ≠ y := (Has.ne hg M.hb (by decide)).symm
  have hwd := hw (l.getD q 0) (by rw [List.getD_eq_getElem?_getD, List.getElem?_eq_getElem hlt]; exact List.getElem_mem hlt)
  refine lkStep_of (mstep_c entr_lkLoad hg c0 (by omega) (fun w1 hu h1 => ?_))
  have M1 := M.upd hu (by simp; exact nym) (by simp; exact nyb)
  refine (lkLoad_g (o := l.getD q 0) (c2 := if liveW (l.getD q 0) gen then code else 3) (o2 := if liveW (l.getD q 0) gen then l.getD q 0 % 4096 else ofs) (fun h => by rw [h]; exact ⟨rfl, rfl⟩) (fun h => by rw [h]; exact ⟨rfl, rfl⟩) h1 (hR.upd hu (by simp; exact nyR)) M1 hq (getD_some hlt) hwd.1 hwd.2 hcc).mono ?_
  rintro e w2 ⟨rfl, hu2, h2, x', M2⟩
  exact ⟨rfl, (hu.mono (by simp)).trans hu2, h2, x', M2⟩
end
end Go.Proofs.YtaecapjicphdkaaGreat
