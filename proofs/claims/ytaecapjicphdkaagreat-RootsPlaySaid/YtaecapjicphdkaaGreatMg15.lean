/- A stack as a list, in plain Lean: what one who pushes or pops by himself brings about. -/
import Derived.Test.YtaecapjicphdkaaGreatMg14
namespace Go.Proofs.YtaecapjicphdkaaGreat
set_option linter.unusedVariables false
set_option linter.unusedSimpArgs false
open Go Go.RowKit
set_option maxRecDepth 100000

/-- From item i on the list is L. -/
def Lnk (lk n : Nat) (l : List Int) : Int → List Int → Prop
  | i, [] => i = -1
  | i, z :: L => i = z ∧ 0 ≤ z ∧ z < n ∧ Lnk lk n l (belowI n (l.getD ((lk : Int) + z).toNat 0)) L
theorem Lnk.items {lk n : Nat} {l : List Int} : ∀ {i : Int} {L : List Int}, Lnk lk n l i L → ∀ z ∈ L, 0 ≤ z ∧ z < n
  | _, [], _, z, hz => by cases hz
  | _, y :: L, h, z, hz => by
    rcases List.mem_cons.1 hz with rfl | hz
    · exact ⟨h.2.1, h.2.2.1⟩
    · exact Lnk.items h.2.2.2 z hz
theorem Lnk.head {lk n : Nat} {l : List Int} {i : Int} {L : List Int} (h : Lnk lk n l i L) : i = L.getD 0 (-1) := by
  cases L with
  | nil => exact h
  | cons z L => exact h.1
theorem Lnk.frame {lk n : Nat} {l l' : List Int} : ∀ {i : Int} {L : List Int}, Lnk lk n l i L → (∀ z ∈ L, l'.getD ((lk : Int) + z).toNat 0 = l.getD ((lk : Int) + z).toNat 0) → Lnk lk n l' i L
  | _, [], h, _ => h
  | _, y :: L, h, e => ⟨h.1, h.2.1, h.2.2.1, by rw [e y (by simp)]; exact Lnk.frame h.2.2.2 (fun z hz => e z (List.mem_cons_of_mem _ hz))⟩
theorem Lnk.drop {lk n : Nat} {l : List Int} : ∀ (k : Nat) {i : Int} {L : List Int}, Lnk lk n l i L → Lnk lk n l (L.getD k (-1)) (L.drop k)
  | 0, i, L, h => by rw [← h.head]; simpa using h
  | k + 1, i, [], h => by simp [Lnk]
  | k + 1, i, y :: L, h => by
    have := Lnk.drop k h.2.2.2
    simpa using this
/-- What stands below one of the list. -/
theorem Lnk.below {lk n : Nat} {l : List Int} : ∀ (k : Nat) {i : Int} {L : List Int}, Lnk lk n l i L → (hk : k < L.length) → belowI n (l.getD ((lk : Int) + L.getD k 0).toNat 0) = L.getD (k + 1) (-1)
  | 0, i, [], h, hk => by simp at hk
  | 0, i, y :: L, h, hk => by
    have := h.2.2.2.head
    simpa using this
  | k + 1, i, [], h, hk => by simp at hk
  | k + 1, i, y :: L, h, hk => by
    have := Lnk.below k h.2.2.2 (by simpa using hk)
    simpa using this
theorem Lnk.list {lk n : Nat} {l : List Int} : ∀ (f : Nat) {i : Int} {L : List Int}, Lnk lk n l i L → L.length ≤ f → listFrom lk n l f i = L
  | 0, i, [], h, _ => rfl
  | 0, i, y :: L, h, hf => by simp at hf
  | f + 1, i, [], h, _ => by show (if i < 0 then [] else _) = _; rw [if_pos (by have : i = -1 := h; omega)]
  | f + 1, i, y :: L, h, hf => by
    obtain ⟨rfl, h1, h2, h3⟩ := h
    show (if i < 0 then [] else _) = _
    rw [if_neg (by omega), Lnk.list f h3 (by simpa using hf)]
/-- A list that is linked, above another one. -/
theorem Lnk.onto {lk n : Nat} {l : List Int} {i : Int} {L : List Int} (h : Lnk lk n l i L) : ∀ (ys : List Int), (∀ z ∈ ys, 0 ≤ z ∧ z < n) → (∀ (t : Nat), t < ys.length → l.getD ((lk : Int) + ys.getD t 0).toNat 0 = ys.getD (t + 1) i + 1) → Lnk lk n l (ys.getD 0 i) (ys ++ L)
  | [], _, _ => by simpa using h
  | y :: r, hb, e => by
    have hy := hb y (by simp)
    have ih := Lnk.onto h r (fun z hz => hb z (List.mem_cons_of_mem _ hz)) (fun t ht => by have := e (t + 1) (by simpa using ht); simpa using this)
    refine ⟨rfl, hy.1, hy.2, ?_⟩
    have e0 := e 0 (by simp)
    simp only [List.getD_cons_zero, List.getD_cons_succ, Nat.zero_add] at e0
    rw [e0]
    have hi : -1 ≤ r.getD 0 i ∧ r.getD 0 i < n := by
      cases r with
      | nil =>
        simp only [List.getD_nil]
        rw [h.head]
        cases hL : L with
        | nil => simp; omega
        | cons z L' =>
          have := h.items z (by rw [hL]; simp)
          simp; omega
      | cons z r =>
        have := hb z (by simp)
        simp; omega
    have hb2 : belowI n (r.getD 0 i + 1) = r.getD 0 i := by
      unfold belowI
      rw [if_neg (by omega)]; omega
    rw [hb2]
    exact ih
theorem nodup_len : ∀ (n : Nat) (L : List Int), L.Nodup → (∀ z ∈ L, 0 ≤ z ∧ z < n) → L.length ≤ n
  | 0, L, _, hb => by
    cases L with
    | nil => simp
    | cons z L => have := hb z (by simp); omega
  | n + 1, L, hn, hb => by
    have h1 := nodup_len n (L.erase (n : Int)) (hn.erase _) (fun z hz => by
      have := (hn.mem_erase_iff).1 hz
      have h2 := hb z this.2
      have h3 : z ≠ n := this.1
      omega)
    have h2 := List.length_erase (a := (n : Int)) (l := L)
    split at h2 <;> omega
/-- The memory is a stack that holds L, behind T exchanges. -/
structure StRep (hd lk n N : Nat) (l : List Int) (T : Nat) (L : List Int) : Prop where
  ok : StOk hd lk n N l
  apart : hd < lk ∨ lk + n ≤ hd
  tag : l.getD hd 0 / 4294967296 = T
  low : l.getD hd 0 % 4294967296 ≤ n
  lnk : Lnk lk n l (topI n (l.getD hd 0)) L
  nodup : L.Nodup
theorem StRep.len {hd lk n N T : Nat} {l L : List Int} (h : StRep hd lk n N l T L) : L.length ≤ n := nodup_len n L h.nodup h.lnk.items
theorem StRep.list {hd lk n N T : Nat} {l L : List Int} (h : StRep hd lk n N l T L) : stList hd lk n l = L := h.lnk.list n h.len
theorem next_eq {was item : Int} {T : Nat} {n : Nat} (h : was / 4294967296 = T) (hT : T < 4294967290) (hn : n ≤ 4096) (h0 : -1 ≤ item) (h1 : item < n) :
    nextI was item = ((T : Int) + 1) * 4294967296 + (item + 1) ∧ topI n (nextI was item) = item ∧ nextI was item / 4294967296 = ((T + 1 : Nat) : Int) := by
  have e : nextI was item = ((T : Int) + 1) * 4294967296 + (item + 1) := by
    have e1 : tagN (was / 4294967296) = (T : Int) + 1 := by unfold tagN; rw [h, if_pos (by omega)]
    show headI item (tagN (was / 4294967296)) = _
    rw [e1]
    unfold headI
    rw [if_pos (headB_true.2 (by omega))]
  rw [e]
  refine ⟨rfl, ?_, by omega⟩
  unfold topI
  rw [if_pos (by omega)]; omega
theorem getD_set_ne {l : List Int} {i j : Nat} (v : Int) (h : i ≠ j) : (l.set i v).getD j 0 = l.getD j 0 := by
  rw [List.getD_eq_getElem?_getD, List.getElem?_set_ne h, ← List.getD_eq_getElem?_getD]
theorem getD_set_eq {l : List Int} {i : Nat} (v : Int) (h : i < l.length) : (l.set i v).getD i 0 = v := by
  rw [List.getD_eq_getElem?_getD, List.getElem?_set_self h]; rfl
/-- An exchange that is done. -/
theorem StRep.exch {hd lk n N T : Nat} {l L L' : List Int} {item : Int} (h : StRep hd lk n N l T L) (hT : T < 4294967290) (hl : Lnk lk n l item L') (hn : L'.Nodup) :
    StRep hd lk n N (l.set hd (nextI (l.getD hd 0) item)) (T + 1) L' := by
  have hb : -1 ≤ item ∧ item < n := by
    rw [hl.head]
    cases L' with
    | nil => simp; omega
    | cons z r => have := hl.items z (by simp); simp; omega
  obtain ⟨e1, e2, e3⟩ := next_eq (n := n) h.tag hT h.ok.n1 hb.1 hb.2
  have hhd : hd < l.length := by rw [h.ok.len]; exact h.ok.hd1
  refine ⟨h.ok.set _ _ (headI_bd _ _).1 (headI_bd _ _).2, h.apart, ?_, ?_, ?_, hn⟩
  · rw [getD_set_eq _ hhd]; exact e3
  · rw [getD_set_eq _ hhd, e1]; omega
  · rw [getD_set_eq _ hhd, e2]
    refine hl.frame fun z hz => getD_set_ne _ ?_
    have := hl.items z hz
    have := h.apart
    omega
/-- A cell of an item that is not there turns. -/
theorem StRep.put {hd lk n N T : Nat} {l L : List Int} {z v : Int} (h : StRep hd lk n N l T L) (hz : z ∉ L) (z0 : 0 ≤ z) (z1 : z < n) (h0 : 0 ≤ v) (h1 : v < 18446744073709551616) :
    StRep hd lk n N (l.set ((lk : Int) + z).toNat v) T L := by
  have ha := h.apart
  have e : (l.set ((lk : Int) + z).toNat v).getD hd 0 = l.getD hd 0 := getD_set_ne _ (by omega)
  refine ⟨h.ok.set _ _ h0 h1, h.apart, by rw [e]; exact h.tag, by rw [e]; exact h.low, ?_, h.nodup⟩
  rw [e]
  refine h.lnk.frame fun y hy => getD_set_ne _ ?_
  have := h.lnk.items y hy
  have : z ≠ y := fun e => hz (e ▸ hy)
  omega
/-- The first of zs are linked: each holds the one behind it. -/
def Tied (lk : Nat) (l zs : List Int) (k : Nat) : Prop := ∀ t : Nat, t < k → l.getD ((lk : Int) + zs.getD t 0).toNat 0 = zs.getD (t + 1) 0 + 1
theorem getD_mem {zs : List Int} {t : Nat} (h : t < zs.length) : zs.getD t 0 ∈ zs := by
  rw [List.getD_eq_getElem?_getD, List.getElem?_eq_getElem h]; exact List.getElem_mem _
theorem getD_end {zs : List Int} {t : Nat} (d : Int) (h : zs.length ≤ t) : zs.getD t d = d := by
  rw [List.getD_eq_getElem?_getD, List.getElem?_eq_none h]; rfl
theorem getD_any {zs : List Int} {t : Nat} (d : Int) (h : t < zs.length) : zs.getD t d = zs.getD t 0 := by
  rw [List.getD_eq_getElem?_getD, List.getElem?_eq_getElem h, List.getD_eq_getElem?_getD, List.getElem?_eq_getElem h]; rfl
theorem getD_inj {zs : List Int} (hn : zs.Nodup) {s t : Nat} (hs : s < zs.length) (ht : t < zs.length) (e : zs.getD s 0 = zs.getD t 0) : s = t := by
  rw [List.getD_eq_getElem?_getD, List.getElem?_eq_getElem hs, List.getD_eq_getElem?_getD, List.getElem?_eq_getElem ht] at e
  exact (List.getElem_inj hn).1 (by simpa using e)
abbrev pu0 (zs : List Int) : Pu := ⟨puPh zs.length, 0, zs, 0, 0⟩
theorem pu0_inv {n : Nat} {zs : List Int} (hne : zs ≠ []) (hz : itemsB n zs) (hl : zs.length ≤ 1000000) : PuInv n 0 (pu0 zs) :=
  ⟨hne, hz.1, hl, fun e => by
    have hp := List.length_pos_iff.2 hne
    dsimp only at e ⊢
    unfold puPh at e
    split at e
    · simp at e
    · split at e
      · simp at e
      · omega, by simp, by simp, by simp, by simp⟩
section
variable {hd lk n N T : Nat} {l L zs : List Int}
/-- The links are set, one a step. -/
theorem push_links (h : StRep hd lk n N l T L) (hz : itemsB n zs) (hne : zs ≠ []) (ha : ∀ z ∈ zs, z ∉ L) : ∀ k : Nat, k + 1 ≤ zs.length →
    StRep hd lk n N (puRun hd lk n k (l, pu0 zs)).1 T L ∧ (puRun hd lk n k (l, pu0 zs)).1.getD hd 0 = l.getD hd 0 ∧ Tied lk (puRun hd lk n k (l, pu0 zs)).1 zs k ∧
      (puRun hd lk n k (l, pu0 zs)).2 = ⟨if k + 1 < zs.length then 0 else 1, k, zs, k, 0⟩
  | 0, hk => by
    refine ⟨h, rfl, fun t ht => by omega, ?_⟩
    show pu0 zs = _
    unfold pu0 puPh
    have : zs.length ≠ 0 := by omega
    by_cases h1 : zs.length = 1
    · simp [h1]
    · rw [if_neg this, if_neg h1, if_pos (by omega)]; rfl
  | k + 1, hk => by
    obtain ⟨i1, i2, i3, i4⟩ := push_links h hz hne ha k (by omega)
    have hk0 : k + 1 < zs.length := by omega
    rw [if_pos hk0] at i4
    have e1 : (puRun hd lk n (k + 1) (l, pu0 zs)) = (puMem hd lk n (puRun hd lk n k (l, pu0 zs)).1 (puRun hd lk n k (l, pu0 zs)).2, puStep hd (puRun hd lk n k (l, pu0 zs)).1 (puRun hd lk n k (l, pu0 zs)).2) := rfl
    rw [e1, i4]
    generalize (puRun hd lk n k (l, pu0 zs)).1 = m at *
    have b0 := hz.1 _ (getD_mem (t := k) (by omega))
    have b1 := hz.1 _ (getD_mem (t := k + 1) (by omega))
    have hn1 := i1.ok.n1
    have hlen := i1.ok.len
    have hlk := i1.ok.lk1
    have em : puMem hd lk n m ⟨0, (k : Int), zs, k, 0⟩ = m.set ((lk : Int) + zs.getD k 0).toNat (zs.getD (k + 1) 0 + 1) := rfl
    have es : puStep hd m ⟨0, (k : Int), zs, k, 0⟩ = ⟨if k + 2 < zs.length then 0 else 1, (k : Int) + 1, zs, k + 1, 0⟩ := rfl
    rw [em, es]
    have hap := h.apart
    refine ⟨i1.put (ha _ (getD_mem (by omega))) b0.1 b0.2 (by omega) (by omega), ?_, fun t ht => ?_, ?_⟩
    · rw [← i2]; exact getD_set_ne _ (by omega)
    · by_cases htk : t = k
      · subst htk; exact getD_set_eq _ (by omega)
      · have bt := hz.1 _ (getD_mem (zs := zs) (t := t) (by omega))
        have : zs.getD k 0 ≠ zs.getD t 0 := fun e => htk (getD_inj hz.2 (by omega) (by omega) e).symm
        show (m.set _ _).getD _ _ = _
        rw [getD_set_ne _ (by omega)]
        exact i3 t (by omega)
    · simp
/-- A Push by himself: its length and 2 accesses; the list stands on the stack. -/
theorem push_alone (h : StRep hd lk n N l T L) (hz : itemsB n zs) (hne : zs ≠ []) (ha : ∀ z ∈ zs, z ∉ L) (hT : T < 4294967290) :
    (∀ k : Nat, k < zs.length + 2 → decide ((puRun hd lk n k (l, pu0 zs)).2.ph < 4) = true) ∧ (puRun hd lk n (zs.length + 2) (l, pu0 zs)).2.ph = 4 ∧ (puRun hd lk n (zs.length + 2) (l, pu0 zs)).2.c = zs.length + 2 ∧
      StRep hd lk n N (puRun hd lk n (zs.length + 2) (l, pu0 zs)).1 (T + 1) (zs ++ L) := by
  have hp := List.length_pos_iff.2 hne
  obtain ⟨q, hq⟩ : ∃ q, zs.length = q + 1 := ⟨zs.length - 1, by omega⟩
  obtain ⟨i1, i2, i3, i4⟩ := push_links h hz hne ha q (by omega)
  have hsm : ∀ k : Nat, k ≤ q → decide ((puRun hd lk n k (l, pu0 zs)).2.ph < 4) = true := fun k hk => by
    rw [(push_links h hz hne ha k (by omega)).2.2.2]
    dsimp only
    split <;> rfl
  rw [if_neg (by omega)] at i4
  have e1 : ∀ k, (puRun hd lk n (k + 1) (l, pu0 zs)) = (puMem hd lk n (puRun hd lk n k (l, pu0 zs)).1 (puRun hd lk n k (l, pu0 zs)).2, puStep hd (puRun hd lk n k (l, pu0 zs)).1 (puRun hd lk n k (l, pu0 zs)).2) := fun _ => rfl
  have f1 := e1 q
  rw [i4] at f1
  have f2 := e1 (q + 1)
  rw [f1] at f2
  have f3 := e1 (q + 2)
  rw [f2] at f3
  generalize (puRun hd lk n q (l, pu0 zs)).1 = m at *
  have g1 : puMem hd lk n m ⟨1, (q : Int), zs, q, 0⟩ = m := rfl
  have g2 : puStep hd m ⟨1, (q : Int), zs, q, 0⟩ = ⟨2, (q : Int) + 1, zs, q, m.getD hd 0⟩ := rfl
  rw [g1, g2] at f1 f2 f3
  have g3 : puMem hd lk n m ⟨2, (q : Int) + 1, zs, q, m.getD hd 0⟩ = m.set ((lk : Int) + zs.getD (zs.length - 1) 0).toNat (topI n (m.getD hd 0) + 1) := rfl
  have g4 : puStep hd m ⟨2, (q : Int) + 1, zs, q, m.getD hd 0⟩ = ⟨3, (q : Int) + 1 + 1, zs, q, m.getD hd 0⟩ := rfl
  rw [g3, g4, hq, Nat.add_sub_cancel] at f2 f3
  have b0 := hz.1 _ (getD_mem (zs := zs) (t := q) (by omega))
  have bt := topI_bd n (m.getD hd 0)
  have hn1 := i1.ok.n1
  have hlen := i1.ok.len
  have hlk := i1.ok.lk1
  have hap := h.apart
  have j1 := i1.put (v := topI n (m.getD hd 0) + 1) (ha _ (getD_mem (t := q) (by omega))) b0.1 b0.2 (by omega) (by omega)
  have j2 : (m.set ((lk : Int) + zs.getD q 0).toNat (topI n (m.getD hd 0) + 1)).getD hd 0 = m.getD hd 0 := getD_set_ne _ (by omega)
  have j3 : ∀ (t : Nat), t < zs.length → (m.set ((lk : Int) + zs.getD q 0).toNat (topI n (m.getD hd 0) + 1)).getD ((lk : Int) + zs.getD t 0).toNat 0 = zs.getD (t + 1) (topI n (m.getD hd 0)) + 1 := by
    intro t ht
    by_cases htk : t = q
    · subst htk
      rw [getD_set_eq _ (by omega), getD_end (zs := zs) _ (by omega)]
    · have bt := hz.1 _ (getD_mem (zs := zs) (t := t) (by omega))
      have : zs.getD q 0 ≠ zs.getD t 0 := fun e => htk (getD_inj hz.2 (by omega) (by omega) e).symm
      rw [getD_set_ne _ (by omega), i3 t (by omega), getD_any (zs := zs) (topI n (m.getD hd 0)) (show t + 1 < zs.length by omega)]
  have j4 := j1.lnk
  rw [j2] at j4
  generalize m.set ((lk : Int) + zs.getD q 0).toNat (topI n (m.getD hd 0) + 1) = m2 at *
  have j5 := Lnk.onto j4 zs hz.1 j3
  have g5 : puMem hd lk n m2 ⟨3, (q : Int) + 1 + 1, zs, q, m.getD hd 0⟩ = if m2.getD hd 0 = m.getD hd 0 then m2.set hd (nextI (m.getD hd 0) (zs.getD 0 0)) else m2 := rfl
  have g6 : puStep hd m2 ⟨3, (q : Int) + 1 + 1, zs, q, m.getD hd 0⟩ = ⟨if m2.getD hd 0 = m.getD hd 0 then 4 else 1, (q : Int) + 1 + 1 + 1, zs, q, m.getD hd 0⟩ := rfl
  rw [g5, g6, if_pos j2, if_pos j2] at f3
  have hnd : (zs ++ L).Nodup := List.nodup_append.2 ⟨hz.2, h.nodup, fun a ha1 b hb1 e => ha a ha1 (e ▸ hb1)⟩
  have e0 : zs.getD 0 (topI n (m.getD hd 0)) = zs.getD 0 0 := by
    exact getD_any _ (by omega)
  rw [e0] at j5
  have j6 := j1.exch hT j5 hnd
  rw [j2] at j6
  rw [hq, show q + 1 + 2 = q + 2 + 1 by omega]
  refine ⟨fun k hk => ?_, by rw [f3], by rw [f3]; simp; omega, by rw [f3]; exact j6⟩
  by_cases hk1 : k ≤ q
  · exact hsm k hk1
  · by_cases hk2 : k = q + 1
    · subst hk2; rw [f1]; rfl
    · obtain rfl : k = q + 1 + 1 := by omega
      rw [f2]; rfl
/-- A Pop by himself, of an empty stack: 1 access. -/
theorem pop_none (h : StRep hd lk n N l T []) (most : Int) : poRun hd lk n 1 (l, ⟨0, 0, most, 0, 0, []⟩) = (l, ⟨3, 1, most, 0, l.getD hd 0, []⟩) := by
  have ht : topI n (l.getD hd 0) = -1 := h.lnk
  show (poMem hd l ⟨0, 0, most, 0, 0, []⟩, poStep hd lk n l ⟨0, 0, most, 0, 0, []⟩) = _
  have e2 : poStep hd lk n l ⟨0, 0, most, 0, 0, []⟩ = if topI n (l.getD hd 0) < 0 then ⟨3, 0 + 1, most, 0, l.getD hd 0, []⟩ else ⟨1, 0 + 1, most, 0, l.getD hd 0, [topI n (l.getD hd 0)]⟩ := rfl
  rw [e2, if_pos (by omega)]
  rfl
theorem take_snocD {L : List Int} {k : Nat} (h : k < L.length) : L.take k ++ [L.getD k (-1)] = L.take (k + 1) := by
  rw [List.take_succ_eq_append_getElem h, List.getD_eq_getElem?_getD, List.getElem?_eq_getElem h]; rfl
theorem pop_links {most c0 u0 w0 : Int} {g0 : List Int} (h : StRep hd lk n N l T L) (hne : L ≠ []) (hm : 1 ≤ most) : ∀ k : Nat, k < L.length → (k : Int) < most →
    ∃ under, poRun hd lk n (k + 1) (l, ⟨0, c0, most, u0, w0, g0⟩) = (l, ⟨1, c0 + (k + 1), most, under, l.getD hd 0, L.take (k + 1)⟩)
  | 0, hk, _ => by
    have ht := h.lnk.head
    have hb := h.lnk.items _ (getD_mem hk)
    have e0 : L.getD 0 (-1) = L.getD 0 0 := by
      rw [List.getD_eq_getElem?_getD, List.getElem?_eq_getElem hk, List.getD_eq_getElem?_getD, List.getElem?_eq_getElem hk]; rfl
    have e2 : poStep hd lk n l ⟨0, c0, most, u0, w0, g0⟩ = if topI n (l.getD hd 0) < 0 then ⟨3, c0 + 1, most, u0, l.getD hd 0, []⟩ else ⟨1, c0 + 1, most, u0, l.getD hd 0, [topI n (l.getD hd 0)]⟩ := rfl
    refine ⟨u0, ?_⟩
    show (poMem hd l ⟨0, c0, most, u0, w0, g0⟩, poStep hd lk n l ⟨0, c0, most, u0, w0, g0⟩) = _
    rw [e2, if_neg (by omega), ht, ← take_snocD hk]
    rfl
  | k + 1, hk, hkm => by
    obtain ⟨under, ih⟩ := pop_links h hne hm k (by omega) (by omega)
    refine ⟨L.getD (k + 1) (-1), ?_⟩
    show (poMem hd (poRun hd lk n (k + 1) (l, ⟨0, c0, most, u0, w0, g0⟩)).1 (poRun hd lk n (k + 1) (l, ⟨0, c0, most, u0, w0, g0⟩)).2, poStep hd lk n (poRun hd lk n (k + 1) (l, ⟨0, c0, most, u0, w0, g0⟩)).1 (poRun hd lk n (k + 1) (l, ⟨0, c0, most, u0, w0, g0⟩)).2) = _
    rw [ih]
    have hlen : (L.take (k + 1)).length = k + 1 := by rw [List.length_take]; omega
    have el : (L.take (k + 1)).getD ((L.take (k + 1)).length - 1) 0 = L.getD k 0 := by
      rw [hlen, Nat.add_sub_cancel, List.getD_eq_getElem?_getD, List.getElem?_take_of_lt (by omega), ← List.getD_eq_getElem?_getD]
    have eb : poBelow lk n l ⟨1, c0 + ((k : Int) + 1), most, under, l.getD hd 0, L.take (k + 1)⟩ = L.getD (k + 1) (-1) := by
      unfold poBelow
      dsimp only
      rw [el]
      exact h.lnk.below k (by omega)
    have hb : 0 ≤ L.getD (k + 1) (-1) := by
      rw [List.getD_eq_getElem?_getD, List.getElem?_eq_getElem hk]
      exact (h.lnk.items _ (List.getElem_mem hk)).1
    have es : poStep hd lk n l ⟨1, c0 + ((k : Int) + 1), most, under, l.getD hd 0, L.take (k + 1)⟩ = poLink lk n l ⟨1, c0 + ((k : Int) + 1), most, under, l.getD hd 0, L.take (k + 1)⟩ := rfl
    dsimp only
    rw [es]
    unfold poLink
    rw [eb]
    dsimp only
    rw [if_pos ⟨hb, by rw [hlen]; omega⟩, take_snocD hk]
    congr 2
    omega
/-- A Pop by himself, of a stack that holds something: as many as he may have and are there, behind 2 accesses more. -/
theorem pop_someG {most c0 u0 w0 : Int} {g0 : List Int} (h : StRep hd lk n N l T L) (hne : L ≠ []) (hm : 1 ≤ most) (c : Nat) (hc : c ≤ L.length) (hcm : (c : Int) ≤ most) (hfull : c = L.length ∨ (c : Int) = most) (hT : T < 4294967290) :
    (∀ k : Nat, k < c + 2 → decide ((poRun hd lk n k (l, ⟨0, c0, most, u0, w0, g0⟩)).2.ph < 3) = true) ∧
      ∃ l' under was, poRun hd lk n (c + 2) (l, ⟨0, c0, most, u0, w0, g0⟩) = (l', ⟨3, c0 + (c + 2), most, under, was, L.take c⟩) ∧ StRep hd lk n N l' (T + 1) (L.drop c) := by
  have hp := List.length_pos_iff.2 hne
  obtain ⟨q, rfl⟩ : ∃ q, c = q + 1 := ⟨c - 1, by omega⟩
  obtain ⟨under, i1⟩ := pop_links h hne hm q (by omega) (by omega)
  have hlen : (L.take (q + 1)).length = q + 1 := by rw [List.length_take]; omega
  have el : (L.take (q + 1)).getD ((L.take (q + 1)).length - 1) 0 = L.getD q 0 := by
    rw [hlen, Nat.add_sub_cancel, List.getD_eq_getElem?_getD, List.getElem?_take_of_lt (by omega), ← List.getD_eq_getElem?_getD]
  have eb : poBelow lk n l ⟨1, c0 + ((q : Int) + 1), most, under, l.getD hd 0, L.take (q + 1)⟩ = L.getD (q + 1) (-1) := by
    unfold poBelow
    dsimp only
    rw [el]
    exact h.lnk.below q (by omega)
  have es : poStep hd lk n l ⟨1, c0 + ((q : Int) + 1), most, under, l.getD hd 0, L.take (q + 1)⟩ = ⟨2, c0 + ((q : Int) + 1) + 1, most, L.getD (q + 1) (-1), l.getD hd 0, L.take (q + 1)⟩ := by
    show poLink lk n l _ = _
    unfold poLink
    rw [eb]
    dsimp only
    rw [hlen, if_neg]
    rintro ⟨h1, h2⟩
    rcases hfull with hf | hf
    · rw [List.getD_eq_getElem?_getD, List.getElem?_eq_none (by omega)] at h1
      simp at h1
    · omega
  have e1 : ∀ k, (poRun hd lk n (k + 1) (l, ⟨0, c0, most, u0, w0, g0⟩)) = (poMem hd (poRun hd lk n k (l, ⟨0, c0, most, u0, w0, g0⟩)).1 (poRun hd lk n k (l, ⟨0, c0, most, u0, w0, g0⟩)).2, poStep hd lk n (poRun hd lk n k (l, ⟨0, c0, most, u0, w0, g0⟩)).1 (poRun hd lk n k (l, ⟨0, c0, most, u0, w0, g0⟩)).2) := fun _ => rfl
  have f1 := e1 (q + 1)
  rw [i1] at f1
  dsimp only at f1
  rw [es] at f1
  have f2 := e1 (q + 2)
  rw [f1] at f2
  have g1 : poMem hd l ⟨1, c0 + ((q : Int) + 1), most, under, l.getD hd 0, L.take (q + 1)⟩ = l := rfl
  have g2 : poMem hd l ⟨2, c0 + ((q : Int) + 1) + 1, most, L.getD (q + 1) (-1), l.getD hd 0, L.take (q + 1)⟩ = if l.getD hd 0 = l.getD hd 0 then l.set hd (nextI (l.getD hd 0) (L.getD (q + 1) (-1))) else l := rfl
  have g3 : poStep hd lk n l ⟨2, c0 + ((q : Int) + 1) + 1, most, L.getD (q + 1) (-1), l.getD hd 0, L.take (q + 1)⟩ = ⟨if l.getD hd 0 = l.getD hd 0 then 3 else 0, c0 + ((q : Int) + 1) + 1 + 1, most, L.getD (q + 1) (-1), l.getD hd 0, L.take (q + 1)⟩ := rfl
  dsimp only at f2
  rw [g1] at f1 f2
  rw [g2, g3, if_pos rfl, if_pos rfl] at f2
  refine ⟨fun k hk => ?_, l.set hd (nextI (l.getD hd 0) (L.getD (q + 1) (-1))), L.getD (q + 1) (-1), l.getD hd 0, ?_, h.exch hT (h.lnk.drop (q + 1)) (List.Sublist.nodup (List.drop_sublist _ _) h.nodup)⟩
  · by_cases hk0 : k = 0
    · subst hk0; rfl
    · by_cases hk1 : k ≤ q + 1
      · obtain ⟨k, rfl⟩ : ∃ j, k = j + 1 := ⟨k - 1, by omega⟩
        obtain ⟨u, hu⟩ := pop_links h hne hm k (by omega) (by omega)
        rw [hu]; rfl
      · obtain rfl : k = q + 1 + 1 := by omega
        rw [f1]; rfl
  · rw [show q + 1 + 2 = q + 2 + 1 by omega, f2]
    congr 2
    omega
theorem pop_some {most : Int} (h : StRep hd lk n N l T L) (hne : L ≠ []) (hm : 1 ≤ most) (c : Nat) (hc : c ≤ L.length) (hcm : (c : Int) ≤ most) (hfull : c = L.length ∨ (c : Int) = most) (hT : T < 4294967290) :
    (∀ k : Nat, k < c + 2 → decide ((poRun hd lk n k (l, ⟨0, 0, most, 0, 0, []⟩)).2.ph < 3) = true) ∧
      ∃ l' under was, poRun hd lk n (c + 2) (l, ⟨0, 0, most, 0, 0, []⟩) = (l', ⟨3, 0 + (c + 2), most, under, was, L.take c⟩) ∧ StRep hd lk n N l' (T + 1) (L.drop c) := pop_someG h hne hm c hc hcm hfull hT
theorem fillTo_get (l : List Int) (lk : Nat) : ∀ k : Nat, lk + k ≤ l.length → ∀ i : Nat, i < k → (fillTo l lk k).getD (lk + i) 0 = (i : Int) + 2
  | 0, _, i, hi => by omega
  | k + 1, hk, i, hi => by
    show ((fillTo l lk k).set (lk + k) ((k : Int) + 2)).getD (lk + i) 0 = _
    by_cases h : i = k
    · subst h; rw [getD_set_eq _ (by rw [fillTo_length]; omega)]
    · rw [getD_set_ne _ (by omega)]; exact fillTo_get l lk k (by omega) i (by omega)
theorem fillTo_words {l : List Int} (h : ∀ v ∈ l, 0 ≤ v ∧ v < 18446744073709551616) (lk : Nat) : ∀ k : Nat, k ≤ 4096 → ∀ v ∈ fillTo l lk k, 0 ≤ v ∧ v < 18446744073709551616
  | 0, _, v, hv => h v hv
  | k + 1, hk, v, hv => by
    rcases List.mem_or_eq_of_mem_set hv with hv | rfl
    · exact fillTo_words h lk k (by omega) v hv
    · omega
def baseL (n : Nat) : List Int := (List.range n).map Int.ofNat
theorem baseL_mem {n : Nat} {z : Int} : z ∈ baseL n ↔ 0 ≤ z ∧ z < n := by
  unfold baseL
  simp only [List.mem_map, List.mem_range]
  constructor
  · rintro ⟨k, hk, rfl⟩; exact ⟨Int.natCast_nonneg _, by exact Int.ofNat_lt.2 hk⟩
  · rintro ⟨h0, h1⟩; exact ⟨z.toNat, by omega, by simp [Int.toNat_of_nonneg h0]⟩
theorem baseL_nodup (n : Nat) : (baseL n).Nodup := by
  unfold baseL
  refine List.Pairwise.map _ ?_ (List.nodup_range (n := n))
  intro a b h e
  exact h (Int.ofNat.inj e)
theorem baseL_len (n : Nat) : (baseL n).length = n := by simp [baseL]
theorem baseL_at {n i : Nat} (d : Int) (h : i < n) : (baseL n).getD i d = i := by
  rw [List.getD_eq_getElem?_getD]; simp [baseL, List.getElem?_range h]
/-- Behind Fill all items are in it, in order. -/
theorem StRep.fill (h : StOk hd lk n N l) (ha : hd < lk ∨ lk + n ≤ hd) (hn : 1 ≤ n) : StRep hd lk n N (stFill hd lk n l) 0 (baseL n) := by
  have h1 := h.len
  have h2 := h.lk1
  have h3 := h.n1
  have h4 := h.hd1
  have hl := fillTo_length l lk n
  have ehd : (stFill hd lk n l).getD hd 0 = 1 := getD_set_eq _ (by rw [List.length_set]; omega)
  have ok : StOk hd lk n N (stFill hd lk n l) := by
    refine StOk.set (StOk.set ⟨by omega, h.small, h4, h2, h3, fillTo_words h.words lk n h3⟩ _ 0 (by omega) (by omega)) _ 1 (by omega) (by omega)
  have et : topI n 1 = 0 := by unfold topI; rw [if_pos (by omega)]; rfl
  refine ⟨ok, ha, by rw [ehd]; rfl, by rw [ehd]; omega, ?_, baseL_nodup n⟩
  rw [ehd, et]
  have key := Lnk.onto (lk := lk) (n := n) (l := stFill hd lk n l) (i := -1) (L := []) rfl (baseL n) (fun z hz => baseL_mem.1 hz) (fun t ht => by
    rw [baseL_len] at ht
    rw [baseL_at _ ht]
    have e2 : ((lk : Int) + (t : Int)).toNat = lk + t := by omega
    rw [e2]
    show ((((fillTo l lk n).set (lk + n - 1) 0).set hd 1)).getD (lk + t) 0 = _
    rw [getD_set_ne _ (by omega)]
    by_cases hl2 : t = n - 1
    · rw [show lk + n - 1 = lk + t by omega, getD_set_eq _ (by omega), getD_end (zs := baseL n) _ (by rw [baseL_len]; omega)]; rfl
    · rw [getD_set_ne _ (by omega), fillTo_get l lk n (by omega) t ht, baseL_at _ (by omega)]; omega)
  rw [baseL_at _ hn, List.append_nil] at key
  exact key
end
end Go.Proofs.YtaecapjicphdkaaGreat
