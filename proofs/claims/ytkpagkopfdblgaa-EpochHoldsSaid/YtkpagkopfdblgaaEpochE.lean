/- The Enter and the Leave as plain machines: one contract for their Step, whatever their state. -/
import Derived.Test.YtkpagkopfdblgaaEpochM
namespace Go.Proofs.Ytkpagkopfdblgaa
set_option linter.unusedVariables false
set_option linter.unusedSimpArgs false
open Go Go.RowKit
set_option maxRecDepth 100000

theorem entr_entLoad : Entr 101 := fun args w => by kernel_rfl
theorem entr_entStore : Entr 109 := fun args w => by kernel_rfl
theorem entr_levStore : Entr 102 := fun args w => by kernel_rfl

/-- An Enter's state: what comes next (0 load, 1 store, 2 nothing), how many accesses, which worker, what it saw. -/
structure En where
  ph : Nat
  c : Int
  who : Int
  now : Int
def enNx : Nat → Option Nat
  | 0 => some 101
  | 1 => some 109
  | _ => none
def EnRep (w : World) (g E : Nat) (s : En) : Prop := Has w g (mach (nxt (enNx s.ph) g) s.c [.pointer (some ⟨E, 0, none⟩), .int .i64 s.who, .int .i64 s.now]) 164
def enStep (l : List Int) (s : En) : En :=
  match s.ph with
  | 0 => { s with ph := 1, c := s.c + 1, now := cutI (l.getD 0 0) }
  | 1 => { s with ph := 2, c := s.c + 1 }
  | _ => s
def enMem (l : List Int) (s : En) : List Int :=
  match s.ph with
  | 1 => l.set (1 + s.who).toNat (2 * s.now + 1)
  | _ => l
def enCount (s : En) : Int := if s.ph < 2 then 1 else 0
structure EnOk (n : Nat) (l : List Int) (s : En) : Prop where
  len : l.length = n + 1
  n1 : n ≤ 64
  top : 0 ≤ l.getD 0 0
  h0 : 0 ≤ s.who
  h1 : s.who < n
  w0 : 0 ≤ s.now
  w1 : s.now ≤ 4611686018427387903
  c0 : 0 ≤ s.c
  c1 : s.c < 1000000
section
variable {w : World} {E m b n : Nat} {l : List Int} {cc : Int} {x : Acc} {g : Nat} {s : En}
theorem entStep_of {o : Bool} {Q : World → Prop} (h : Calls Try.prog 82 #[.pointer (some ⟨g, 0, none⟩)] w fun e w' => e = .returned (.bool o) ∧ Q w') :
    Calls Try.prog 69 #[.pointer (some ⟨g, 0, none⟩)] w fun e w' => e = .returned (.bool o) ∧ Q w' := by
  have H := Lib.hid h
  clear h
  go_enter Try.func69, Try.ntmps69
  go_wp2_with (go_at_call 82; refine (H.out).mono ?_; rintro e w' ⟨rfl, hq⟩)
  go_ret
  exact ⟨rfl, hq⟩
theorem entDone_of {o : Bool} {Q : World → Prop} (h : Calls Try.prog 83 #[.pointer (some ⟨g, 0, none⟩)] w fun e w' => e = .returned (.bool o) ∧ Q w') :
    Calls Try.prog 68 #[.pointer (some ⟨g, 0, none⟩)] w fun e w' => e = .returned (.bool o) ∧ Q w' := by
  have H := Lib.hid h
  clear h
  go_enter Try.func68, Try.ntmps68
  go_wp2_with (go_at_call 83; refine (H.out).mono ?_; rintro e w' ⟨rfl, hq⟩)
  go_ret
  exact ⟨rfl, hq⟩
theorem levStep_of {o : Bool} {Q : World → Prop} (h : Calls Try.prog 82 #[.pointer (some ⟨g, 0, none⟩)] w fun e w' => e = .returned (.bool o) ∧ Q w') :
    Calls Try.prog 71 #[.pointer (some ⟨g, 0, none⟩)] w fun e w' => e = .returned (.bool o) ∧ Q w' := by
  have H := Lib.hid h
  clear h
  go_enter Try.func71, Try.ntmps71
  go_wp2_with (go_at_call 82; refine (H.out).mono ?_; rintro e w' ⟨rfl, hq⟩)
  go_ret
  exact ⟨rfl, hq⟩
theorem enStep_c (hg : EnRep w g E s) (hE : Has w E (epochOf m 0 1 n) 144) (M : Mem w m b (n + 1) l cc x) (H : EnOk n l s) (hcc : cc < 4611686018427387903) :
    Calls Try.prog 69 #[.pointer (some ⟨g, 0, none⟩)] w fun e w' => e = .returned (.bool (decide (s.ph < 2))) ∧ Upd [g, m, b] w w' ∧
      EnRep w' g E (enStep l s) ∧ ∃ x', Mem w' m b (n + 1) (enMem l s) (cc + enCount s) x' := by
  obtain ⟨ph, c, who, now⟩ := s
  obtain ⟨hlen, n1, top, h0, h1', w0, w1', c0, c1⟩ := H
  unfold EnRep at *
  have ngE : E ≠ g := (Has.ne hg hE (by decide)).symm
  have ngm : m ≠ g := (Has.ne hg M.hg (by decide)).symm
  have ngb : b ≠ g := (Has.ne hg M.hb (by decide)).symm
  dsimp only at *
  match ph, hg with
  | 0, hg =>
    refine entStep_of (mstep_c entr_entLoad hg c0 (by omega) (fun w1 hu h1 => ?_))
    have hE1 := hE.upd hu (by simp; exact ngE)
    have M1 := M.upd hu (by simp; exact ngm) (by simp; exact ngb)
    refine (enterLoad_c (a := 0) h1 hE1 M1 (getD_some (by omega)) top hcc).mono ?_
    rintro e w' ⟨rfl, hu2, h2, M2⟩
    exact ⟨rfl, (hu.mono (by simp)).trans hu2, h2, _, M2⟩
  | 1, hg =>
    refine entStep_of (mstep_c entr_entStore hg c0 (by omega) (fun w1 hu h1 => ?_))
    have hE1 := hE.upd hu (by simp; exact ngE)
    have M1 := M.upd hu (by simp; exact ngm) (by simp; exact ngb)
    have hi : (1 : Int) + who = ((1 + who).toNat : Nat) := by omega
    have ho : l[(1 + who).toNat]? = some (l.getD (1 + who).toNat 0) := getD_some (by omega)
    refine (enterStore_c h1 hE1 M1 hi ho (by omega) w0 w1' hcc).mono ?_
    rintro e w' ⟨rfl, hu2, h2, M2⟩
    exact ⟨rfl, (hu.mono (by simp)).trans hu2, h2, _, M2⟩
  | k + 2, hg =>
    have ed : decide (k + 2 < 2) = false := decide_eq_false (by omega)
    have ec : enCount ⟨k + 2, c, who, now⟩ = 0 := by unfold enCount; rw [if_neg (show ¬ k + 2 < 2 by omega)]
    rw [ed, ec]
    refine entStep_of ((mstep_nil hg).mono ?_)
    rintro e w' ⟨rfl, rfl⟩
    refine ⟨rfl, Upd.refl _ _, hg, x, ?_⟩
    rw [Int.add_zero]; exact M
theorem enDone_c (hg : EnRep w g E s) :
    Calls Try.prog 68 #[.pointer (some ⟨g, 0, none⟩)] w fun e w' => e = .returned (.bool (decide (2 ≤ s.ph))) ∧ w = w' := by
  obtain ⟨ph, c, who, now⟩ := s
  refine entDone_of ((mdone_c hg).mono ?_)
  rintro e w' ⟨rfl, rfl⟩
  match ph with
  | 0 => exact ⟨rfl, rfl⟩
  | 1 => exact ⟨rfl, rfl⟩
  | k + 2 => exact ⟨by rw [decide_eq_true (show 2 ≤ k + 2 by omega)]; rfl, rfl⟩
/-- A Leave just made: its one access clears the worker's word. -/
theorem levStep_c {who : Int} (hg : Has w g (mach (bound 102 g) 0 [.pointer (some ⟨E, 0, none⟩), .int .i64 who]) 166) (hE : Has w E (epochOf m 0 1 n) 144) (M : Mem w m b (n + 1) l cc x) (hn : n ≤ 64) (h0 : 0 ≤ who) (h1 : who < n) (hcc : cc < 4611686018427387903) :
    Calls Try.prog 71 #[.pointer (some ⟨g, 0, none⟩)] w fun e w' => e = .returned (.bool true) ∧ Upd [g, m, b] w w' ∧ ∃ x', Mem w' m b (n + 1) (l.set (1 + who).toNat 0) (cc + 1) x' := by
  have ngE : E ≠ g := (Has.ne hg hE (by decide)).symm
  have ngm : m ≠ g := (Has.ne hg M.hg (by decide)).symm
  have ngb : b ≠ g := (Has.ne hg M.hb (by decide)).symm
  have hlen := M.len
  refine levStep_of (mstep_c entr_levStore hg (by omega) (by omega) (fun w1 hu h1 => ?_))
  have hE1 := hE.upd hu (by simp; exact ngE)
  have M1 := M.upd hu (by simp; exact ngm) (by simp; exact ngb)
  have hi : (1 : Int) + who = ((1 + who).toNat : Nat) := by omega
  have ho : l[(1 + who).toNat]? = some (l.getD (1 + who).toNat 0) := getD_some (by omega)
  refine (leaveStore_c h1 hE1 M1 hi ho (by omega) hcc).mono ?_
  rintro e w' ⟨rfl, hu2, _, M2⟩
  exact ⟨rfl, (hu.mono (by simp)).trans hu2, _, M2⟩
end
end Go.Proofs.Ytkpagkopfdblgaa
