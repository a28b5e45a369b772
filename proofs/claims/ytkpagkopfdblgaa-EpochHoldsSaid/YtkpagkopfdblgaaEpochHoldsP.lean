/- An epoch that one holds, in plain Lean: it goes on by one at most. -/
import Derived.Test.YtkpagkopfdblgaaEpochE
namespace Go.Proofs.Ytkpagkopfdblgaa
set_option linter.unusedVariables false
set_option linter.unusedSimpArgs false
open Go Go.RowKit
set_option maxRecDepth 100000

/-- The memory and worker 0's Enter, behind q rounds; at_ is what it announced (-1: not yet). -/
structure Hold (q at_ : Int) (l : List Int) (n : En) : Prop where
  len : l.length = 5
  words : ∀ v ∈ l, 0 ≤ v ∧ v ≤ 2 * q + 1
  ep : l.getD 0 0 ≤ q
  who : n.who = 0
  n0 : 0 ≤ n.now
  n1 : n.now ≤ l.getD 0 0
  c0 : 0 ≤ n.c
  c1 : n.c ≤ q
  st : (n.ph < 2 ∧ at_ = -1) ∨ (n.ph = 2 ∧ 0 ≤ at_ ∧ n.now ≤ at_ ∧ at_ ≤ l.getD 0 0 ∧ l.getD 0 0 ≤ at_ + 1 ∧ l.getD 1 0 = 2 * n.now + 1)
structure AdGood (q at_ ep : Int) (s : Ad) : Prop where
  w0 : 0 ≤ s.was
  w1 : s.was ≤ ep
  k0 : 0 ≤ s.wk
  k1 : s.ph ≤ 1 → s.wk < 4
  c0 : 0 ≤ s.c
  c1 : s.c ≤ q
  z : s.ph = 0 → s.wk = 0
  past : 0 ≤ at_ → (s.ph = 1 ∧ 1 ≤ s.wk) ∨ s.ph = 2 → s.was ≤ at_
structure EnGood (q : Int) (i : Nat) (s : En) : Prop where
  who : s.who = i
  w0 : 0 ≤ s.now
  w1 : s.now ≤ q
  c0 : 0 ≤ s.c
  c1 : s.c ≤ q
theorem AdGood.mono {q at_ ep q' ep' : Int} {s : Ad} (h : AdGood q at_ ep s) (hq : q ≤ q') (he : ep ≤ ep') : AdGood q' at_ ep' s :=
  ⟨h.w0, Int.le_trans h.w1 he, h.k0, h.k1, h.c0, Int.le_trans h.c1 hq, h.z, h.past⟩
theorem AdGood.told {q ep : Int} {s : Ad} (h : AdGood q (-1) ep s) : AdGood q ep ep s :=
  ⟨h.w0, h.w1, h.k0, h.k1, h.c0, h.c1, h.z, fun _ _ => h.w1⟩
theorem AdGood.ok {q at_ : Int} {l : List Int} {n : En} {s : Ad} (h : AdGood q at_ (l.getD 0 0) s) (H : Hold q at_ l n) (hq : q ≤ 1000) : AdOk 4 l s :=
  ⟨H.len, by omega, by omega, fun v hv => by have := H.words v hv; omega, h.w0, by have := h.w1; have := H.ep; omega, h.k0, fun e => h.k1 (by omega), h.c0, by have := h.c1; omega⟩
theorem EnGood.mono {q q' : Int} {i : Nat} {s : En} (h : EnGood q i s) (hq : q ≤ q') : EnGood q' i s :=
  ⟨h.who, h.w0, Int.le_trans h.w1 hq, h.c0, Int.le_trans h.c1 hq⟩
theorem five {l : List Int} (h : l.length = 5) : ∃ e a b c d, l = [e, a, b, c, d] := by
  match l, h with
  | [e, a, b, c, d], _ => exact ⟨e, a, b, c, d, rfl⟩
theorem cut_small {v : Int} (h0 : 0 ≤ v) (h1 : v ≤ 1000) : cutI v = v := by
  unfold cutI
  split <;> omega
theorem Hold.later {q at_ : Int} {l : List Int} {n : En} (h : Hold q at_ l n) : Hold (q + 1) at_ l n :=
  ⟨h.len, fun v hv => by have := h.words v hv; omega, by have := h.ep; omega, h.who, h.n0, h.n1, h.c0, by have := h.c1; omega, h.st⟩
/-- Another worker's word turns. -/
theorem Hold.put {q at_ v : Int} {l : List Int} {n : En} {i : Nat} (h : Hold q at_ l n) (hi : 2 ≤ i) (h0 : 0 ≤ v) (h1 : v ≤ 2 * q + 1) : Hold q at_ (l.set i v) n ∧ (l.set i v).getD 0 0 = l.getD 0 0 := by
  have e0 : (l.set i v).getD 0 0 = l.getD 0 0 := by
    rw [List.getD_eq_getElem?_getD, List.getElem?_set_ne (by omega), ← List.getD_eq_getElem?_getD]
  have e1 : (l.set i v).getD 1 0 = l.getD 1 0 := by
    rw [List.getD_eq_getElem?_getD, List.getElem?_set_ne (by omega), ← List.getD_eq_getElem?_getD]
  refine ⟨⟨by simp [h.len], fun y hy => ?_, by rw [e0]; exact h.ep, h.who, h.n0, by rw [e0]; exact h.n1, h.c0, h.c1, by rw [e0, e1]; exact h.st⟩, e0⟩
  rcases List.mem_or_eq_of_mem_set hy with hy | rfl
  · exact h.words y hy
  · exact ⟨h0, h1⟩
theorem Hold.ad {q at_ : Int} {l : List Int} {n : En} {s : Ad} (h : Hold q at_ l n) (g : AdGood q at_ (l.getD 0 0) s) (hq : q ≤ 1000) :
    Hold (q + 1) at_ (adMem l s) n ∧ AdGood (q + 1) at_ ((adMem l s).getD 0 0) (adStep 4 l s) ∧ l.getD 0 0 ≤ (adMem l s).getD 0 0 := by
  obtain ⟨e, a, b, c, d, rfl⟩ := five h.len
  obtain ⟨len, words, ep, who, n0, n1, c0, c1, st⟩ := h
  obtain ⟨ph, k, was, wk, won⟩ := s
  obtain ⟨w0, w1, k0, k1, d0, d1, z, past⟩ := g
  have we := words e (by simp)
  have wa := words a (by simp)
  have wb := words b (by simp)
  have wc := words c (by simp)
  have wd := words d (by simp)
  simp only [List.getD_cons_zero] at *
  have e1 : [e, a, b, c, d].getD 1 0 = a := rfl
  rw [e1] at st
  have base : Hold (q + 1) at_ [e, a, b, c, d] n := ⟨rfl, fun v hv => by have := words v hv; omega, by simp only [List.getD_cons_zero]; omega, who, n0, by simp only [List.getD_cons_zero]; omega, c0, by omega, by simpa using st⟩
  match ph with
  | 0 =>
    have := z rfl
    have := k1 (by decide)
    refine ⟨base, ⟨?_, ?_, ?_, ?_, ?_, ?_, ?_, ?_⟩, ?_⟩ <;> simp [adStep, adMem] <;> omega
  | 1 =>
    have kk := k1 (by decide)
    refine ⟨base, ?_, by simp [adMem]⟩
    show AdGood (q + 1) at_ e (adLook 4 [e, a, b, c, d] ⟨1, k, was, wk, won⟩)
    unfold adLook
    split
    · exact ⟨w0, w1, k0, by simp, by simp; omega, by simp; omega, by simp, by simp⟩
    · rename_i hno
      have hp : 0 ≤ at_ → was ≤ at_ := by
        intro ha
        by_cases hk : 1 ≤ wk
        · exact past ha (.inl ⟨rfl, hk⟩)
        · have hz : wk = 0 := by omega
          subst hz
          have eg : [e, a, b, c, d].getD ((1 : Int) + 0).toNat 0 = a := rfl
          simp only [eg] at hno
          rcases st with ⟨_, h⟩ | ⟨_, _, h2, _, _, h3⟩
          · omega
          · rw [cut_small w0 (by omega)] at hno
            subst h3
            have o1 : (2 * n.now + 1) % 2 = 1 := by omega
            have o2 : (2 * n.now + 1) / 2 = n.now := by omega
            rw [o1, o2] at hno
            have : n.now = was := Classical.byContradiction fun hn => hno ⟨rfl, hn⟩
            omega
      split
      · rename_i hlt
        exact ⟨w0, w1, by simp; omega, fun _ => by simpa using hlt, by simp; omega, by simp; omega, by simp, fun ha _ => hp ha⟩
      · exact ⟨w0, w1, by simp; omega, by simp, by simp; omega, by simp; omega, by simp, fun ha _ => hp ha⟩
  | 2 =>
    have hp : 0 ≤ at_ → was ≤ at_ := fun ha => past ha (.inr rfl)
    have em : adMem [e, a, b, c, d] ⟨2, k, was, wk, won⟩ = if e = was then [was + 1, a, b, c, d] else [e, a, b, c, d] := rfl
    have es : adStep 4 [e, a, b, c, d] ⟨2, k, was, wk, won⟩ = ⟨3, k + 1, was, wk, decide (e = was)⟩ := rfl
    rw [em, es]
    split
    · rename_i h
      subst h
      refine ⟨⟨rfl, ?_, by simp only [List.getD_cons_zero]; omega, who, n0, by simp only [List.getD_cons_zero]; omega, c0, by omega, ?_⟩, ⟨w0, by simp only [List.getD_cons_zero]; omega, k0, by simp, by simp; omega, by simp; omega, by simp, by simp⟩, by simp only [List.getD_cons_zero]; omega⟩
      · intro v hv
        simp only [List.mem_cons, List.not_mem_nil, or_false] at hv
        rcases hv with rfl | rfl | rfl | rfl | rfl <;> omega
      · show _ ∨ (_ ∧ _ ∧ _ ∧ at_ ≤ e + 1 ∧ e + 1 ≤ at_ + 1 ∧ a = _)
        rcases st with h | ⟨h1, h2, h3, h4, h5, h6⟩
        · exact .inl h
        · have := hp h2
          exact .inr ⟨h1, h2, h3, by omega, by omega, h6⟩
    · exact ⟨base, ⟨w0, w1, k0, by simp, by simp; omega, by simp; omega, by simp, by simp⟩, by simp⟩
  | p + 3 =>
    have em : adMem [e, a, b, c, d] ⟨p + 3, k, was, wk, won⟩ = [e, a, b, c, d] := rfl
    have es : adStep 4 [e, a, b, c, d] ⟨p + 3, k, was, wk, won⟩ = ⟨p + 3, k, was, wk, won⟩ := rfl
    rw [em, es]
    exact ⟨base, ⟨w0, w1, k0, k1, d0, by simp only at d1 ⊢; omega, z, past⟩, by simp⟩
/-- Worker 0 goes on. -/
theorem Hold.zero {q at_ : Int} {l : List Int} {n : En} (h : Hold q at_ l n) (hq : q ≤ 1000) (hp : n.ph < 2) :
    (n.ph = 0 → Hold (q + 1) at_ (enMem l n) (enStep l n) ∧ (enMem l n).getD 0 0 = l.getD 0 0) ∧
      (n.ph = 1 → Hold (q + 1) (l.getD 0 0) (enMem l n) (enStep l n) ∧ (enMem l n).getD 0 0 = l.getD 0 0) := by
  obtain ⟨e, a, b, c, d, rfl⟩ := five h.len
  obtain ⟨len, words, ep, who, n0, n1, c0, c1, st⟩ := h
  obtain ⟨ph, k, w0, now⟩ := n
  have we := words e (by simp)
  simp only [List.getD_cons_zero] at *
  subst who
  constructor
  · rintro rfl
    have es : enStep [e, a, b, c, d] ⟨0, k, 0, now⟩ = ⟨1, k + 1, 0, cutI e⟩ := rfl
    have em : enMem [e, a, b, c, d] ⟨0, k, 0, now⟩ = [e, a, b, c, d] := rfl
    rw [es, em, cut_small we.1 (by omega)]
    refine ⟨⟨rfl, fun v hv => by have := words v hv; omega, by simp only [List.getD_cons_zero]; omega, rfl, by simp only; omega, by simp, by simp only; omega, by simp only; omega, .inl ⟨by simp, ?_⟩⟩, rfl⟩
    rcases st with h | h
    · exact h.2
    · simp at h
  · rintro rfl
    have es : enStep [e, a, b, c, d] ⟨1, k, 0, now⟩ = ⟨2, k + 1, 0, now⟩ := rfl
    have em : enMem [e, a, b, c, d] ⟨1, k, 0, now⟩ = [e, 2 * now + 1, b, c, d] := rfl
    rw [es, em]
    refine ⟨⟨rfl, ?_, by simp only [List.getD_cons_zero]; omega, rfl, n0, n1, by simp only; omega, by simp only; omega, .inr ⟨rfl, we.1, n1, by simp, by simp only [List.getD_cons_zero]; omega, rfl⟩⟩, rfl⟩
    intro v hv
    simp only [List.mem_cons, List.not_mem_nil, or_false] at hv
    have wb := words b (by simp)
    have wc := words c (by simp)
    have wd := words d (by simp)
    rcases hv with rfl | rfl | rfl | rfl | rfl <;> omega
/-- Another one who enters goes on. -/
theorem Hold.en {q at_ : Int} {l : List Int} {n s : En} {i : Nat} (h : Hold q at_ l n) (g : EnGood q i s) (hi : 1 ≤ i) (hq : q ≤ 1000) :
    Hold (q + 1) at_ (enMem l s) n ∧ EnGood (q + 1) i (enStep l s) ∧ (enMem l s).getD 0 0 = l.getD 0 0 := by
  have hl0 : 0 ≤ l.getD 0 0 := Int.le_trans h.n0 h.n1
  have hep := h.ep
  obtain ⟨ph, k, who, now⟩ := s
  obtain ⟨hw, w0, w1, c0, c1⟩ := g
  simp only at hw w0 w1 c0 c1
  subst hw
  match ph with
  | 0 =>
    refine ⟨h.later, ⟨rfl, ?_, ?_, ?_, ?_⟩, rfl⟩
    · show 0 ≤ cutI (l.getD 0 0); rw [cut_small hl0 (by omega)]; exact hl0
    · show cutI (l.getD 0 0) ≤ q + 1; rw [cut_small hl0 (by omega)]; omega
    · show 0 ≤ k + 1; omega
    · show k + 1 ≤ q + 1; omega
  | 1 =>
    have em : enMem l ⟨1, k, (i : Int), now⟩ = l.set ((1 : Int) + i).toNat (2 * now + 1) := rfl
    rw [em]
    have hp := h.later.put (i := ((1 : Int) + i).toNat) (v := 2 * now + 1) (by omega) (by omega) (by omega)
    refine ⟨hp.1, ⟨rfl, w0, by show now ≤ q + 1; omega, by show 0 ≤ k + 1; omega, by show k + 1 ≤ q + 1; omega⟩, hp.2⟩
  | p + 2 => exact ⟨h.later, ⟨rfl, w0, by show now ≤ q + 1; omega, c0, by show k ≤ q + 1; omega⟩, rfl⟩
end Go.Proofs.Ytkpagkopfdblgaa
