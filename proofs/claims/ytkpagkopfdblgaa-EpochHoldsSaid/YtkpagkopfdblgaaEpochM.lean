/- The Advance as a plain machine: one contract for its Step, whatever its state. -/
import Derived.Test.YtkpagkopfdblgaaEpochA
namespace Go.Proofs.Ytkpagkopfdblgaa
set_option linter.unusedVariables false
set_option linter.unusedSimpArgs false
open Go Go.RowKit
set_option maxRecDepth 100000

theorem entr_advLoad : Entr 81 := fun args w => by kernel_rfl
theorem entr_advLook : Entr 107 := fun args w => by kernel_rfl
theorem entr_advCas : Entr 110 := fun args w => by kernel_rfl

/-- An Advance's state: what comes next (0 load, 1 look, 2 cas, 3 nothing), how many accesses, what it saw, whom it looks at, whether it won. -/
structure Ad where
  ph : Nat
  c : Int
  was : Int
  wk : Int
  won : Bool
def adNx : Nat → Option Nat
  | 0 => some 81
  | 1 => some 107
  | 2 => some 110
  | _ => none
/-- It lies in block g. -/
def AdRep (w : World) (g E : Nat) (s : Ad) : Prop := Has w g (advOf (nxt (adNx s.ph) g) s.c E s.was s.wk s.won) 140
def adLook (n : Nat) (l : List Int) (s : Ad) : Ad :=
  if l.getD (1 + s.wk).toNat 0 % 2 = 1 ∧ ¬ l.getD (1 + s.wk).toNat 0 / 2 = cutI s.was then { s with ph := 3, c := s.c + 1 }
  else if s.wk + 1 < n then { s with c := s.c + 1, wk := s.wk + 1 } else { s with ph := 2, c := s.c + 1, wk := s.wk + 1 }
/-- One access. -/
def adStep (n : Nat) (l : List Int) (s : Ad) : Ad :=
  match s.ph with
  | 0 => { s with ph := 1, c := s.c + 1, was := l.getD 0 0 }
  | 1 => adLook n l s
  | 2 => { s with ph := 3, c := s.c + 1, won := decide (l.getD 0 0 = s.was) }
  | _ => s
def adMem (l : List Int) (s : Ad) : List Int :=
  match s.ph with
  | 2 => if l.getD 0 0 = s.was then l.set 0 (s.was + 1) else l
  | _ => l
def adCount (s : Ad) : Int := if s.ph < 3 then 1 else 0
structure AdOk (n : Nat) (l : List Int) (s : Ad) : Prop where
  len : l.length = n + 1
  n0 : 1 ≤ n
  n1 : n ≤ 64
  words : ∀ v ∈ l, 0 ≤ v ∧ v < 18446744073709551616
  w0 : 0 ≤ s.was
  w1 : s.was < 4611686018427387904
  k0 : 0 ≤ s.wk
  k1 : s.ph = 1 → s.wk < n
  c0 : 0 ≤ s.c
  c1 : s.c < 1000000
theorem getD_some {l : List Int} {i : Nat} (h : i < l.length) : l[i]? = some (l.getD i 0) := by
  rw [List.getD_eq_getElem?_getD, List.getElem?_eq_getElem h]; rfl
section
variable {w : World} {E m b n : Nat} {l : List Int} {cc : Int} {x : Acc} {g : Nat} {s : Ad}
theorem adStep_c (hg : AdRep w g E s) (hE : Has w E (epochOf m 0 1 n) 144) (M : Mem w m b (n + 1) l cc x) (H : AdOk n l s) (hcc : cc < 4611686018427387903) :
    Calls Try.prog 49 #[.pointer (some ⟨g, 0, none⟩)] w fun e w' => e = .returned (.bool (decide (s.ph < 3))) ∧ Upd [g, m, b] w w' ∧
      AdRep w' g E (adStep n l s) ∧ ∃ x', Mem w' m b (n + 1) (adMem l s) (cc + adCount s) x' := by
  obtain ⟨ph, c, was, wk, won⟩ := s
  obtain ⟨hlen, n0, n1, words, w0, w1, k0, k1, c0, c1⟩ := H
  unfold AdRep at *
  have ngE : E ≠ g := (Has.ne hg hE (by decide)).symm
  have ngm : m ≠ g := (Has.ne hg M.hg (by decide)).symm
  have ngb : b ≠ g := (Has.ne hg M.hb (by decide)).symm
  dsimp only at *
  match ph, hg, k1 with
  | 0, hg, k1 =>
    refine advStep_of (mstep_c entr_advLoad hg c0 (by omega) (fun w1 hu h1 => ?_))
    have hE1 := hE.upd hu (by simp; exact ngE)
    have M1 := M.upd hu (by simp; exact ngm) (by simp; exact ngb)
    refine (advLoad_c (a := 0) h1 hE1 M1 (getD_some (by omega)) hcc).mono ?_
    rintro e w' ⟨rfl, hu2, h2, M2⟩
    exact ⟨rfl, (hu.mono (by simp)).trans hu2, h2, _, M2⟩
  | 1, hg, k1 =>
    refine advStep_of (mstep_c entr_advLook hg c0 (by omega) (fun w1 hu h1 => ?_))
    have hE1 := hE.upd hu (by simp; exact ngE)
    have M1 := M.upd hu (by simp; exact ngm) (by simp; exact ngb)
    have hk := k1 rfl
    have hi : (1 : Int) + wk = ((1 + wk).toNat : Nat) := by omega
    have ho : l[(1 + wk).toNat]? = some (l.getD (1 + wk).toNat 0) := getD_some (by omega)
    have hb := words _ (List.mem_of_getElem? ho)
    have em : adMem l ⟨1, c, was, wk, won⟩ = l := rfl
    have ec : adCount ⟨1, c, was, wk, won⟩ = 1 := rfl
    have es : adStep n l ⟨1, c, was, wk, won⟩ = adLook n l ⟨1, c, was, wk, won⟩ := rfl
    rw [em, ec, es]
    unfold adLook
    dsimp only
    by_cases h : l.getD (1 + wk).toNat 0 % 2 = 1 ∧ ¬ l.getD (1 + wk).toNat 0 / 2 = cutI was
    · rw [if_pos h]
      refine (advLook_bar h1 hE1 M1 hi ho hb.1 hb.2 (by omega) k0 (by omega) w0 hcc h.1 h.2).mono ?_
      rintro e w' ⟨rfl, hu2, h2, M2⟩
      exact ⟨rfl, (hu.mono (by simp)).trans hu2, h2, _, M2⟩
    · rw [if_neg h]
      by_cases hev : l.getD (1 + wk).toNat 0 % 2 = 1
      · have heq : l.getD (1 + wk).toNat 0 / 2 = cutI was := Classical.byContradiction fun hn => h ⟨hev, hn⟩
        by_cases h3 : wk + 1 < (n : Int)
        · rw [if_pos h3]
          refine (advLook_odd_on h1 hE1 M1 hi ho hb.1 hb.2 (by omega) k0 (by omega) w0 hcc hev heq h3).mono ?_
          rintro e w' ⟨rfl, hu2, h2, M2⟩
          exact ⟨rfl, (hu.mono (by simp)).trans hu2, h2, _, M2⟩
        · rw [if_neg h3]
          refine (advLook_odd_end h1 hE1 M1 hi ho hb.1 hb.2 (by omega) k0 (by omega) w0 hcc hev heq h3).mono ?_
          rintro e w' ⟨rfl, hu2, h2, M2⟩
          exact ⟨rfl, (hu.mono (by simp)).trans hu2, h2, _, M2⟩
      · by_cases h3 : wk + 1 < (n : Int)
        · rw [if_pos h3]
          refine (advLook_even_on h1 hE1 M1 hi ho hb.1 hb.2 (by omega) k0 (by omega) w0 hcc (by omega) h3).mono ?_
          rintro e w' ⟨rfl, hu2, h2, M2⟩
          exact ⟨rfl, (hu.mono (by simp)).trans hu2, h2, _, M2⟩
        · rw [if_neg h3]
          refine (advLook_even_end h1 hE1 M1 hi ho hb.1 hb.2 (by omega) k0 (by omega) w0 hcc (by omega) h3).mono ?_
          rintro e w' ⟨rfl, hu2, h2, M2⟩
          exact ⟨rfl, (hu.mono (by simp)).trans hu2, h2, _, M2⟩
  | 2, hg, k1 =>
    refine advStep_of (mstep_c entr_advCas hg c0 (by omega) (fun w1 hu h1 => ?_))
    have hE1 := hE.upd hu (by simp; exact ngE)
    have M1 := M.upd hu (by simp; exact ngm) (by simp; exact ngb)
    have ho : l[0]? = some (l.getD 0 0) := getD_some (by omega)
    unfold adStep adMem adCount
    dsimp only
    by_cases h : l.getD 0 0 = was
    · rw [if_pos h]
      refine (advCas_eq (a := 0) h1 hE1 M1 (by rw [ho, h]) w0 (by omega) hcc).mono ?_
      rintro e w' ⟨rfl, hu2, h2, M2⟩
      exact ⟨rfl, (hu.mono (by simp)).trans hu2, by rw [decide_eq_true h]; exact h2, _, M2⟩
    · rw [if_neg h]
      refine (advCas_ne (a := 0) h1 hE1 M1 ho w0 (by omega) hcc h).mono ?_
      rintro e w' ⟨rfl, hu2, h2, M2⟩
      exact ⟨rfl, (hu.mono (by simp)).trans hu2, by rw [decide_eq_false h]; exact h2, _, M2⟩
  | k + 3, hg, k1 =>
    refine advStep_of ((mstep_nil hg).mono ?_)
    rintro e w' ⟨rfl, rfl⟩
    refine ⟨by simp, Upd.refl _ _, hg, x, ?_⟩
    have e1 : adCount ⟨k + 3, c, was, wk, won⟩ = 0 := by unfold adCount; simp
    rw [e1]
    simpa [adMem] using M
theorem adDone_c (hg : AdRep w g E s) :
    Calls Try.prog 50 #[.pointer (some ⟨g, 0, none⟩)] w fun e w' => e = .returned (.bool (decide (3 ≤ s.ph))) ∧ w = w' := by
  refine advDone_of ((mdone_c hg).mono ?_)
  rintro e w' ⟨rfl, rfl⟩
  refine ⟨?_, rfl⟩
  congr 2
  match s.ph with
  | 0 => rfl
  | 1 => rfl
  | 2 => rfl
  | k + 3 => simp [adNx]
theorem adWon_c (hg : AdRep w g E s) : Calls Try.prog 51 #[.pointer (some ⟨g, 0, none⟩)] w fun e w' => e = .returned (.bool s.won) ∧ w = w' := won_c hg
theorem adNew_c {a : Nat} {p N : Int} (hE : Has w E (epochOf m a p N) 144) :
    Calls Try.prog 48 #[.pointer (some ⟨E, 0, none⟩)] w fun e w' => ∃ g, e = .returned (.pointer (some ⟨g, 0, none⟩)) ∧ Keeps w w' ∧ w.heap.size ≤ g ∧ AdRep w' g E ⟨0, 0, 0, 0, false⟩ := mkAdv_c hE
end
end Go.Proofs.Ytkpagkopfdblgaa
