/- Plain laws of the Advance as a plain machine. -/
import Derived.Test.YtkpagkopfdblgaaEpochM
namespace Go.Proofs.Ytkpagkopfdblgaa
set_option linter.unusedVariables false
set_option linter.unusedSimpArgs false
open Go Go.RowKit
set_option maxRecDepth 100000

/-- What holds of a memory and of an Advance's state: all numbers are at most B. -/
structure AdInv (n : Nat) (B : Int) (l : List Int) (s : Ad) : Prop where
  len : l.length = n + 1
  n0 : 1 ≤ n
  n1 : n ≤ 64
  words : ∀ v ∈ l, 0 ≤ v ∧ v < 18446744073709551616
  top : l.getD 0 0 ≤ B
  w0 : 0 ≤ s.was
  w1 : s.was ≤ B
  k0 : 0 ≤ s.wk
  k1 : s.ph ≤ 1 → s.wk < n
  c0 : 0 ≤ s.c
  c1 : s.c ≤ B
theorem AdInv.ok {n : Nat} {B : Int} {l : List Int} {s : Ad} (h : AdInv n B l s) (hB : B ≤ 500000) : AdOk n l s :=
  ⟨h.len, h.n0, h.n1, h.words, h.w0, by have := h.w1; omega, h.k0, fun e => h.k1 (by omega), h.c0, by have := h.c1; omega⟩
theorem AdInv.mono {n : Nat} {B B' : Int} {l : List Int} {s : Ad} (h : AdInv n B l s) (hB : B ≤ B') : AdInv n B' l s :=
  ⟨h.len, h.n0, h.n1, h.words, by have := h.top; omega, h.w0, by have := h.w1; omega, h.k0, h.k1, h.c0, by have := h.c1; omega⟩
theorem adMem_len (l : List Int) (s : Ad) : (adMem l s).length = l.length := by
  unfold adMem
  split
  · split <;> simp
  · rfl
theorem adStep_count (n : Nat) (l : List Int) (s : Ad) : (adStep n l s).c = s.c + adCount s := by
  obtain ⟨ph, c, was, wk, won⟩ := s
  match ph with
  | 0 => rfl
  | 1 =>
    show (adLook n l _).c = c + 1
    unfold adLook
    split
    · rfl
    · split <;> rfl
  | 2 => rfl
  | k + 3 =>
    have e : adCount ⟨k + 3, c, was, wk, won⟩ = 0 := by unfold adCount; rw [if_neg (show ¬ k + 3 < 3 by omega)]
    rw [e]
    show c = c + 0
    omega
theorem AdInv.step {n : Nat} {B : Int} {l : List Int} {s : Ad} (h : AdInv n B l s) (hB : B ≤ 1000000) : AdInv n (B + 1) (adMem l s) (adStep n l s) := by
  obtain ⟨ph, c, was, wk, won⟩ := s
  obtain ⟨len, n0, n1, words, top, w0, w1, k0, k1, c0, c1⟩ := h
  have h0 : 0 ≤ l.getD 0 0 := (words _ (List.mem_of_getElem? (getD_some (by omega)))).1
  dsimp only at *
  match ph, k1 with
  | 0, k1 =>
    have k := k1 (by omega)
    exact ⟨len, n0, n1, words, by show l.getD 0 0 ≤ B + 1; omega, h0, by show l.getD 0 0 ≤ B + 1; omega, k0, fun _ => k, by show 0 ≤ c + 1; omega, by show c + 1 ≤ B + 1; omega⟩
  | 1, k1 =>
    have k := k1 (by omega)
    have em : adMem l ⟨1, c, was, wk, won⟩ = l := rfl
    have es : adStep n l ⟨1, c, was, wk, won⟩ = adLook n l ⟨1, c, was, wk, won⟩ := rfl
    rw [em, es]
    unfold adLook
    dsimp only
    split
    · exact ⟨len, n0, n1, words, by omega, w0, by show was ≤ B + 1; omega, k0, fun e => by simp at e, by show 0 ≤ c + 1; omega, by show c + 1 ≤ B + 1; omega⟩
    · split
      · rename_i h3
        exact ⟨len, n0, n1, words, by omega, w0, by show was ≤ B + 1; omega, by show 0 ≤ wk + 1; omega, fun _ => h3, by show 0 ≤ c + 1; omega, by show c + 1 ≤ B + 1; omega⟩
      · exact ⟨len, n0, n1, words, by omega, w0, by show was ≤ B + 1; omega, by show 0 ≤ wk + 1; omega, fun e => by simp at e, by show 0 ≤ c + 1; omega, by show c + 1 ≤ B + 1; omega⟩
  | 2, k1 =>
    have em : adMem l ⟨2, c, was, wk, won⟩ = if l.getD 0 0 = was then l.set 0 (was + 1) else l := rfl
    rw [em]
    refine ⟨by split <;> simp [len], n0, n1, ?_, ?_, w0, by show was ≤ B + 1; omega, k0, fun e => by simp [adStep] at e, by show 0 ≤ c + 1; omega, by show c + 1 ≤ B + 1; omega⟩
    · split
      · intro v hv
        rcases List.mem_or_eq_of_mem_set hv with hv | rfl
        · exact words v hv
        · omega
      · exact words
    · split
      · rw [List.getD_eq_getElem?_getD, List.getElem?_set_self (by omega)]
        show was + 1 ≤ B + 1
        omega
      · omega
  | k + 3, k1 =>
    exact ⟨len, n0, n1, words, by show l.getD 0 0 ≤ B + 1; omega, w0, by show was ≤ B + 1; omega, k0, fun e => k1 e, c0, by show c ≤ B + 1; omega⟩
/-- So many steps of one. -/
def adRun (n : Nat) : Nat → List Int × Ad → List Int × Ad
  | 0, p => p
  | k + 1, p => (adMem (adRun n k p).1 (adRun n k p).2, adStep n (adRun n k p).1 (adRun n k p).2)
theorem adRun_inv {n : Nat} {B : Int} {p : List Int × Ad} (h : AdInv n B p.1 p.2) : ∀ k : Nat, B + k ≤ 1000000 → AdInv n (B + k) (adRun n k p).1 (adRun n k p).2
  | 0, _ => h.mono (by simp)
  | k + 1, hk => ((adRun_inv h k (by omega)).step (by omega)).mono (by omega)
theorem adRun_more {n : Nat} {p : List Int × Ad} (k : Nat) (h : 3 ≤ (adRun n k p).2.ph) : ∀ j, adRun n (k + j) p = adRun n k p
  | 0 => rfl
  | j + 1 => by
    have ih := adRun_more k h j
    show (adMem (adRun n (k + j) p).1 (adRun n (k + j) p).2, adStep n (adRun n (k + j) p).1 (adRun n (k + j) p).2) = _
    rw [ih]
    generalize adRun n k p = r at *
    obtain ⟨l, ⟨ph, c, was, wk, won⟩⟩ := r
    obtain ⟨i, rfl⟩ : ∃ i, ph = i + 3 := ⟨ph - 3, by simp at h; omega⟩
    rfl
/-- One is pinned at q, the epoch is t: what comes of ten steps. -/
theorem bars_plain (t q : Int) (w : Nat) (t0 : 1 ≤ t) (t1 : t ≤ 1000) (q0 : 0 ≤ q) (q1 : q ≤ t) (hw : w < 5) :
    let r := adRun 5 10 (((List.replicate 6 0).set 0 t).set (1 + w) (2 * q + 1), ⟨0, 0, 0, 0, false⟩)
    r.2.ph = 3 ∧ r.2.won = decide (q = t) ∧ r.2.c = (if q = t then 7 else 2 + (w : Int)) ∧ r.1.getD 0 0 = (if q = t then t + 1 else t) := by
  have hc : cutI t = t := by unfold cutI; rw [if_pos (by omega)]
  have h1 : (2 * q + 1) % 2 = 1 := by omega
  have h2 : (2 * q + 1) / 2 = q := by omega
  by_cases hq : q = t
  · subst hq
    match w, hw with
    | 0, _ => simp [adRun, adStep, adMem, adLook, h1, h2, hc]
    | 1, _ => simp [adRun, adStep, adMem, adLook, h1, h2, hc]
    | 2, _ => simp [adRun, adStep, adMem, adLook, h1, h2, hc]
    | 3, _ => simp [adRun, adStep, adMem, adLook, h1, h2, hc]
    | 4, _ => simp [adRun, adStep, adMem, adLook, h1, h2, hc]
  · match w, hw with
    | 0, _ => simp [adRun, adStep, adMem, adLook, h1, h2, hc, hq]
    | 1, _ => simp [adRun, adStep, adMem, adLook, h1, h2, hc, hq]
    | 2, _ => simp [adRun, adStep, adMem, adLook, h1, h2, hc, hq]
    | 3, _ => simp [adRun, adStep, adMem, adLook, h1, h2, hc, hq]
    | 4, _ => simp [adRun, adStep, adMem, adLook, h1, h2, hc, hq]
end Go.Proofs.Ytkpagkopfdblgaa
