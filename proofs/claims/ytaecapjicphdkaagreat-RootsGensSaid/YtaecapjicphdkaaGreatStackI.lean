/- Plain laws of Push and Pop as plain machines: what stays. -/
import Derived.Test.YtaecapjicphdkaaGreatStackL
namespace Go.Proofs.YtaecapjicphdkaaGreat
set_option linter.unusedVariables false
set_option linter.unusedSimpArgs false
open Go Go.RowKit
set_option maxRecDepth 100000

theorem headI_bd (i t : Int) : 0 ≤ headI i t ∧ headI i t < 18446744073709551616 := by
  unfold headI
  split
  · rename_i h
    have := headB_true.1 h
    omega
  · omega
theorem StOk.set {hd lk n N : Nat} {l : List Int} (h : StOk hd lk n N l) (i : Nat) (v : Int) (h0 : 0 ≤ v) (h1 : v < 18446744073709551616) : StOk hd lk n N (l.set i v) :=
  ⟨by rw [List.length_set]; exact h.len, h.small, h.hd1, h.lk1, h.n1, fun z hz => by
    rcases List.mem_or_eq_of_mem_set hz with hz | rfl
    · exact h.words z hz
    · exact ⟨h0, h1⟩⟩
theorem StOk.po {hd lk n N : Nat} {l : List Int} (h : StOk hd lk n N l) (s : Po) : StOk hd lk n N (poMem hd l s) := by
  unfold poMem
  split
  · split
    · exact h.set _ _ (headI_bd _ _).1 (headI_bd _ _).2
    · exact h
  · exact h
structure PuInv (n : Nat) (C : Int) (s : Pu) : Prop where
  ne : s.zs ≠ []
  items : ∀ z ∈ s.zs, 0 ≤ z ∧ z < n
  len : s.zs.length ≤ 1000000
  i1 : s.ph = 0 → s.i + 2 ≤ s.zs.length
  w0 : 0 ≤ s.was
  w1 : s.was < 18446744073709551616
  c0 : 0 ≤ s.c
  c1 : s.c ≤ C
theorem PuInv.ok {n : Nat} {C : Int} {s : Pu} (h : PuInv n C s) (hC : C ≤ 900000) : PuOk n s :=
  ⟨h.ne, h.items, h.len, h.i1, h.w0, h.w1, h.c0, by have := h.c1; omega⟩
theorem PuInv.mono {n : Nat} {C D : Int} {s : Pu} (h : PuInv n C s) (hC : C ≤ D) : PuInv n D s := ⟨h.ne, h.items, h.len, h.i1, h.w0, h.w1, h.c0, by have := h.c1; omega⟩
theorem StOk.pu {hd lk n N : Nat} {C : Int} {l : List Int} (h : StOk hd lk n N l) {s : Pu} (H : PuInv n C s) : StOk hd lk n N (puMem hd lk n l s) := by
  have hn := h.n1
  obtain ⟨ph, c, zs, i, was⟩ := s
  have hz := H.ne
  have hlen := List.length_pos_iff.2 hz
  dsimp only at hz hlen
  match ph, H with
  | 0, H =>
    have b := items_at (s := ⟨0, c, zs, i, was⟩) H.items (i := i + 1) (by have := H.i1 rfl; dsimp only at this ⊢; omega)
    dsimp only at b
    exact h.set _ _ (by dsimp only; omega) (by dsimp only; omega)
  | 1, H => exact h
  | 2, H =>
    have b := topI_bd n was
    exact h.set _ _ (by dsimp only; omega) (by dsimp only; omega)
  | 3, H =>
    show StOk hd lk n N (if l.getD hd 0 = was then l.set hd (nextI was (zs.getD 0 0)) else l)
    split
    · exact h.set _ _ (headI_bd _ _).1 (headI_bd _ _).2
    · exact h
  | k + 4, H => exact h
theorem PuInv.step {hd lk n N : Nat} {C : Int} {l : List Int} {s : Pu} (H : PuInv n C s) (h : StOk hd lk n N l) : PuInv n (C + 1) (puStep hd l s) := by
  obtain ⟨ph, c, zs, i, was⟩ := s
  have c0 := H.c0
  have c1 := H.c1
  have hb := h.words _ (List.mem_of_getElem? (getD_some (l := l) (i := hd) (by rw [h.len]; exact h.hd1)))
  dsimp only at c0 c1
  match ph, H with
  | 0, H =>
    have hi := H.i1 rfl
    refine ⟨H.ne, H.items, H.len, fun e => ?_, H.w0, H.w1, by show 0 ≤ c + 1; omega, by show c + 1 ≤ C + 1; omega⟩
    have e' : (if i + 2 < zs.length then 0 else 1) = 0 := e
    show i + 1 + 2 ≤ zs.length
    split at e' <;> omega
  | 1, H => exact ⟨H.ne, H.items, H.len, fun e => by simp [puStep] at e, hb.1, hb.2, by show 0 ≤ c + 1; omega, by show c + 1 ≤ C + 1; omega⟩
  | 2, H => exact ⟨H.ne, H.items, H.len, fun e => by simp [puStep] at e, H.w0, H.w1, by show 0 ≤ c + 1; omega, by show c + 1 ≤ C + 1; omega⟩
  | 3, H =>
    refine ⟨H.ne, H.items, H.len, fun e => ?_, H.w0, H.w1, by show 0 ≤ c + 1; omega, by show c + 1 ≤ C + 1; omega⟩
    have e' : (if l.getD hd 0 = was then 4 else 1) = 0 := e
    split at e' <;> omega
  | k + 4, H => exact ⟨H.ne, H.items, H.len, fun e => by simp [puStep] at e, H.w0, H.w1, c0, by show c ≤ C + 1; omega⟩
structure PoInv (n : Nat) (C : Int) (s : Po) : Prop where
  ne : s.ph = 1 → s.got ≠ []
  items : ∀ z ∈ s.got, 0 ≤ z ∧ z < n
  len : (s.got.length : Int) ≤ s.c
  w0 : 0 ≤ s.was
  w1 : s.was < 18446744073709551616
  c0 : 0 ≤ s.c
  c1 : s.c ≤ C
theorem PoInv.ok {n : Nat} {C : Int} {s : Po} (h : PoInv n C s) (hC : C ≤ 900000) : PoOk n s :=
  ⟨h.ne, h.items, by have := h.len; have := h.c1; omega, h.w0, h.w1, h.c0, by have := h.c1; omega⟩
theorem PoInv.mono {n : Nat} {C D : Int} {s : Po} (h : PoInv n C s) (hC : C ≤ D) : PoInv n D s := ⟨h.ne, h.items, h.len, h.w0, h.w1, h.c0, by have := h.c1; omega⟩
theorem PoInv.step {hd lk n N : Nat} {C : Int} {l : List Int} {s : Po} (H : PoInv n C s) (h : StOk hd lk n N l) : PoInv n (C + 1) (poStep hd lk n l s) := by
  obtain ⟨ph, c, most, under, was, got⟩ := s
  have c0 := H.c0
  have c1 := H.c1
  have hlen := H.len
  have hb := h.words _ (List.mem_of_getElem? (getD_some (l := l) (i := hd) (by rw [h.len]; exact h.hd1)))
  dsimp only at c0 c1 hlen
  match ph, H with
  | 0, H =>
    show PoInv n (C + 1) (if topI n (l.getD hd 0) < 0 then _ else _)
    have bt := topI_bd n (l.getD hd 0)
    split
    · exact ⟨fun e => by simp at e, by simp, by show ((0 : Nat) : Int) ≤ c + 1; omega, hb.1, hb.2, by show 0 ≤ c + 1; omega, by show c + 1 ≤ C + 1; omega⟩
    · exact ⟨fun _ => by simp, fun z hz => by obtain rfl := List.mem_singleton.1 hz; exact ⟨by omega, bt.2⟩, by show ((1 : Nat) : Int) ≤ c + 1; omega, hb.1, hb.2, by show 0 ≤ c + 1; omega, by show c + 1 ≤ C + 1; omega⟩
  | 1, H =>
    show PoInv n (C + 1) (poLink lk n l ⟨1, c, most, under, was, got⟩)
    unfold poLink
    split
    · rename_i hbr
      have hne := H.ne rfl
      have hlast : ((lk : Int) + got.getD (got.length - 1) 0).toNat < l.length := by
        have hp := List.length_pos_iff.2 hne
        have hg : 0 ≤ got.getD (got.length - 1) 0 ∧ got.getD (got.length - 1) 0 < n := by
          rw [List.getD_eq_getElem?_getD, List.getElem?_eq_getElem (by dsimp only at hp; omega)]
          exact H.items _ (List.getElem_mem _)
        have := h.lk1
        rw [h.len]
        omega
      have bb := belowI_bd n _ (h.words _ (List.mem_of_getElem? (getD_some hlast))).1
      refine ⟨fun _ => by simp, fun z hz => ?_, ?_, H.w0, H.w1, by show 0 ≤ c + 1; omega, by show c + 1 ≤ C + 1; omega⟩
      · rcases List.mem_append.1 hz with hz | hz
        · exact H.items z hz
        · simp at hz; subst hz; exact ⟨hbr.1, bb.2⟩
      · show ((got ++ [_]).length : Int) ≤ c + 1
        simp; omega
    · exact ⟨fun e => by simp at e, H.items, by show (got.length : Int) ≤ c + 1; omega, H.w0, H.w1, by show 0 ≤ c + 1; omega, by show c + 1 ≤ C + 1; omega⟩
  | 2, H =>
    refine ⟨fun e => ?_, H.items, by show (got.length : Int) ≤ c + 1; omega, H.w0, H.w1, by show 0 ≤ c + 1; omega, by show c + 1 ≤ C + 1; omega⟩
    have e' : (if l.getD hd 0 = was then 3 else 0) = 1 := e
    split at e' <;> omega
  | k + 3, H => exact ⟨fun e => by simp [poStep] at e, H.items, hlen, H.w0, H.w1, c0, by show c ≤ C + 1; omega⟩
/-- So many steps of one, by himself. -/
def poRun (hd lk n : Nat) : Nat → List Int × Po → List Int × Po
  | 0, p => p
  | k + 1, p => (poMem hd (poRun hd lk n k p).1 (poRun hd lk n k p).2, poStep hd lk n (poRun hd lk n k p).1 (poRun hd lk n k p).2)
def puRun (hd lk n : Nat) : Nat → List Int × Pu → List Int × Pu
  | 0, p => p
  | k + 1, p => (puMem hd lk n (puRun hd lk n k p).1 (puRun hd lk n k p).2, puStep hd (puRun hd lk n k p).1 (puRun hd lk n k p).2)
theorem poRun_inv {hd lk n N : Nat} {C : Int} {p : List Int × Po} (h : StOk hd lk n N p.1) (H : PoInv n C p.2) : ∀ k : Nat, StOk hd lk n N (poRun hd lk n k p).1 ∧ PoInv n (C + k) (poRun hd lk n k p).2
  | 0 => ⟨h, H.mono (by simp)⟩
  | k + 1 => by
    have ih := poRun_inv h H k
    exact ⟨ih.1.po _, (ih.2.step ih.1).mono (by omega)⟩
theorem puRun_inv {hd lk n N : Nat} {C : Int} {p : List Int × Pu} (h : StOk hd lk n N p.1) (H : PuInv n C p.2) : ∀ k : Nat, StOk hd lk n N (puRun hd lk n k p).1 ∧ PuInv n (C + k) (puRun hd lk n k p).2
  | 0 => ⟨h, H.mono (by simp)⟩
  | k + 1 => by
    have ih := puRun_inv h H k
    exact ⟨ih.1.pu ih.2, (ih.2.step ih.1).mono (by omega)⟩
theorem poStep_count (hd lk n : Nat) (l : List Int) (s : Po) : (poStep hd lk n l s).c = s.c + poCount s := by
  obtain ⟨ph, c, most, under, was, got⟩ := s
  match ph with
  | 0 =>
    show (if topI n (l.getD hd 0) < 0 then _ else _ : Po).c = c + 1
    split <;> rfl
  | 1 =>
    show (poLink lk n l _).c = c + 1
    unfold poLink
    split <;> rfl
  | 2 => rfl
  | k + 3 =>
    have e : poCount ⟨k + 3, c, most, under, was, got⟩ = 0 := by unfold poCount; rw [if_neg (show ¬ k + 3 < 3 by omega)]
    rw [e]
    show c = c + 0
    omega
theorem puStep_count (hd : Nat) (l : List Int) (s : Pu) : (puStep hd l s).c = s.c + puCount s := by
  obtain ⟨ph, c, zs, i, was⟩ := s
  match ph with
  | 0 => rfl
  | 1 => rfl
  | 2 => rfl
  | 3 => rfl
  | k + 4 =>
    have e : puCount ⟨k + 4, c, zs, i, was⟩ = 0 := by unfold puCount; rw [if_neg (show ¬ k + 4 < 4 by omega)]
    rw [e]
    show c = c + 0
    omega
end Go.Proofs.YtaecapjicphdkaaGreat
