/- Four who push and pop, in plain Lean: each item is somewhere, once. -/
import Derived.Test.YtcohhfndaogikaaStackA
namespace Go.Proofs.Ytcohhfndaogikaa
set_option linter.unusedVariables false
set_option linter.unusedSimpArgs false
open Go Go.RowKit
set_option maxRecDepth 100000

/-- What was seen of the head, behind T exchanges. -/
def Was (l : List Int) (hd T : Nat) (was : Int) : Prop := was / 4294967296 ≤ T ∧ (was / 4294967296 = T → was = l.getD hd 0)
inductive Md where
  | no
  | pu (s : Pu)
  | po (s : Po)
/-- A worker: his machine, what he has, what he puts. -/
structure Wk where
  md : Md
  has : List Int
  puts : List Int
def Wk.all (k : Wk) : List Int := k.has ++ k.puts
structure PuMd (hd lk n : Nat) (l : List Int) (T : Nat) (C : Int) (puts : List Int) (s : Pu) : Prop where
  inv : PuInv n C s
  zs : s.zs = puts
  nodup : s.zs.Nodup
  ph : s.ph < 4
  tied : Tied lk l s.zs (if s.ph = 0 then s.i else s.zs.length - 1)
  was : 2 ≤ s.ph → Was l hd T s.was
  last : s.ph = 3 → l.getD ((lk : Int) + s.zs.getD (s.zs.length - 1) 0).toNat 0 = topI n s.was + 1
structure PoMd (hd lk n : Nat) (l : List Int) (T : Nat) (C : Int) (L puts : List Int) (s : Po) : Prop where
  inv : PoInv n C s
  puts : puts = []
  ph : s.ph < 3
  was : 1 ≤ s.ph → Was l hd T s.was
  got : 1 ≤ s.ph → s.was = l.getD hd 0 → s.got ≠ [] ∧ s.got.length ≤ L.length ∧ L.take s.got.length = s.got ∧ (s.ph = 2 → s.under = L.getD s.got.length (-1))
def MdOk (hd lk n : Nat) (l : List Int) (T : Nat) (C : Int) (L puts : List Int) : Md → Prop
  | .no => puts = []
  | .pu s => PuMd hd lk n l T C puts s
  | .po s => PoMd hd lk n l T C L puts s
section
variable {hd lk n N T : Nat} {C D : Int} {l L puts : List Int} {md : Md}
theorem MdOk.mono (h : MdOk hd lk n l T C L puts md) (hC : C ≤ D) : MdOk hd lk n l T D L puts md := by
  cases md with
  | no => exact h
  | pu s => exact ⟨h.inv.mono hC, h.zs, h.nodup, h.ph, h.tied, h.was, h.last⟩
  | po s => exact ⟨h.inv.mono hC, h.puts, h.ph, h.was, h.got⟩
theorem tied_items {zs : List Int} {C : Int} {s : Pu} (h : PuInv n C s) {t : Nat} (ht : t < s.zs.length) : 0 ≤ s.zs.getD t 0 ∧ s.zs.getD t 0 < n := h.items _ (getD_mem ht)
theorem PuMd.bound {s : Pu} (h : PuMd hd lk n l T C puts s) : (if s.ph = 0 then s.i else s.zs.length - 1) ≤ s.zs.length := by
  split
  · have := h.inv.i1 (by assumption); omega
  · omega
/-- A cell of an item that is not his turns. -/
theorem MdOk.put (h : MdOk hd lk n l T C L puts md) (ha : hd < lk ∨ lk + n ≤ hd) {z v : Int} (z0 : 0 ≤ z) (z1 : z < n) (hz : z ∉ puts) : MdOk hd lk n (l.set ((lk : Int) + z).toNat v) T C L puts md := by
  have e0 : (l.set ((lk : Int) + z).toNat v).getD hd 0 = l.getD hd 0 := getD_set_ne _ (by omega)
  have wk : ∀ {was : Int}, Was l hd T was → Was (l.set ((lk : Int) + z).toNat v) hd T was := fun h => ⟨h.1, fun e => by rw [e0]; exact h.2 e⟩
  cases md with
  | no => exact h
  | pu s =>
    have hne : ∀ t, t < s.zs.length → (l.set ((lk : Int) + z).toNat v).getD ((lk : Int) + s.zs.getD t 0).toNat 0 = l.getD ((lk : Int) + s.zs.getD t 0).toNat 0 := fun t ht => by
      have b := h.inv.items _ (getD_mem ht)
      have : z ≠ s.zs.getD t 0 := fun e => hz (by rw [← h.zs, e]; exact getD_mem ht)
      exact getD_set_ne _ (by omega)
    have hp := List.length_pos_iff.2 h.inv.ne
    exact ⟨h.inv, h.zs, h.nodup, h.ph, fun t ht => by rw [hne t (by have := h.bound; omega)]; exact h.tied t ht, fun e => wk (h.was e), fun e => by rw [hne _ (by omega)]; exact h.last e⟩
  | po s => exact ⟨h.inv, h.puts, h.ph, fun e => wk (h.was e), fun e1 e2 => h.got e1 (by rw [← e0]; exact e2)⟩
/-- Another one's exchange. -/
theorem MdOk.exch (h : MdOk hd lk n l T C L puts md) (ha : hd < lk ∨ lk + n ≤ hd) (hhd : hd < l.length) {v : Int} (hv : v / 4294967296 = ((T + 1 : Nat) : Int)) (L' : List Int) : MdOk hd lk n (l.set hd v) (T + 1) C L' puts md := by
  have e0 : (l.set hd v).getD hd 0 = v := getD_set_eq _ hhd
  have wk : ∀ {was : Int}, Was l hd T was → Was (l.set hd v) hd (T + 1) was := fun h => ⟨by have := h.1; omega, fun e => by have := h.1; omega⟩
  cases md with
  | no => exact h
  | pu s =>
    have hne : ∀ t, t < s.zs.length → (l.set hd v).getD ((lk : Int) + s.zs.getD t 0).toNat 0 = l.getD ((lk : Int) + s.zs.getD t 0).toNat 0 := fun t ht => by
      have b := h.inv.items _ (getD_mem ht)
      exact getD_set_ne _ (by omega)
    have hp := List.length_pos_iff.2 h.inv.ne
    exact ⟨h.inv, h.zs, h.nodup, h.ph, fun t ht => by rw [hne t (by have := h.bound; omega)]; exact h.tied t ht, fun e => wk (h.was e), fun e => by rw [hne _ (by omega)]; exact h.last e⟩
  | po s =>
    refine ⟨h.inv, h.puts, h.ph, fun e => wk (h.was e), fun e1 e2 => ?_⟩
    rw [e0] at e2
    have := (h.was e1).1
    rw [e2] at this
    omega
end
/-- All of the list but one place. -/
theorem flat_set {α : Type} (f : α → List Int) : ∀ (ws : List α) (i : Nat) (a : α), ws[i]? = some a → ∃ R : List Int, ((ws.map f).flatten).Perm (f a ++ R) ∧ ∀ b, (((ws.set i b).map f).flatten).Perm (f b ++ R)
  | [], i, a, h => by simp at h
  | x :: ws, 0, a, h => by
    simp at h
    subst h
    exact ⟨(ws.map f).flatten, by simp, fun b => by simp⟩
  | x :: ws, i + 1, a, h => by
    obtain ⟨R, h1, h2⟩ := flat_set f ws i a (by simpa using h)
    refine ⟨f x ++ R, ?_, fun b => ?_⟩
    · simp only [List.map_cons, List.flatten_cons]
      exact (h1.append_left (f x)).trans (List.perm_append_comm_assoc _ _ _)
    · simp only [List.set_cons_succ, List.map_cons, List.flatten_cons]
      exact ((h2 b).append_left (f x)).trans (List.perm_append_comm_assoc _ _ _)
/-- All four, and the stack. -/
structure StAll (hd lk n N : Nat) (C : Int) (l : List Int) (T : Nat) (L : List Int) (ws : List Wk) : Prop where
  rep : StRep hd lk n N l T L
  tc : (T : Int) ≤ C
  md : ∀ (i : Nat) k, ws[i]? = some k → MdOk hd lk n l T C L k.puts k.md
  perm : (L ++ (ws.map Wk.all).flatten).Perm (baseL n)
section
variable {hd lk n N T : Nat} {C : Int} {l L : List Int} {ws : List Wk} {i : Nat} {k : Wk}
theorem StAll.nodup (h : StAll hd lk n N C l T L ws) : (L ++ (ws.map Wk.all).flatten).Nodup := h.perm.nodup_iff.2 (baseL_nodup n)
theorem mem_flat {ws : List Wk} {i : Nat} {k : Wk} (hi : ws[i]? = some k) {z : Int} (hz : z ∈ k.all) : z ∈ (ws.map Wk.all).flatten :=
  List.mem_flatten.2 ⟨k.all, List.mem_map.2 ⟨k, List.mem_of_getElem? hi, rfl⟩, hz⟩
theorem StAll.off (h : StAll hd lk n N C l T L ws) (hi : ws[i]? = some k) {z : Int} (hz : z ∈ k.puts) : z ∉ L := fun hL =>
  (List.nodup_append.1 h.nodup).2.2 z hL z (mem_flat hi (List.mem_append_right _ hz)) rfl
theorem StAll.sep (h : StAll hd lk n N C l T L ws) (hi : ws[i]? = some k) {j : Nat} {k' : Wk} (hj : ws[j]? = some k') (hij : j ≠ i) {z : Int} (hz : z ∈ k.puts) : z ∉ k'.puts := by
  intro hz2
  obtain ⟨R, h1, h2⟩ := flat_set Wk.all ws i k hi
  have hn : ((ws.map Wk.all).flatten).Nodup := (List.nodup_append.1 h.nodup).2.1
  have hn2 := h1.nodup_iff.1 hn
  have hzR : z ∈ R := by
    have hm : z ∈ (((ws.set i ⟨.no, [], []⟩).map Wk.all).flatten) := mem_flat (i := j) (k := k') (by rw [List.getElem?_set_ne (fun e => hij e.symm)]; exact hj) (List.mem_append_right _ hz2)
    have := (h2 ⟨.no, [], []⟩).mem_iff.1 hm
    simpa [Wk.all] using this
  exact (List.nodup_append.1 hn2).2.2 z (List.mem_append_right _ hz) z hzR rfl
/-- The memory and the list stand; his machine goes on. -/
theorem StAll.quiet (h : StAll hd lk n N C l T L ws) (hi : ws[i]? = some k) (k' : Wk) (hm : MdOk hd lk n l T (C + 1) L k'.puts k'.md) (hp : k'.all.Perm k.all) : StAll hd lk n N (C + 1) l T L (ws.set i k') := by
  have hlt := (List.getElem?_eq_some_iff.1 hi).1
  refine ⟨h.rep, by have := h.tc; omega, fun j q hj => ?_, ?_⟩
  · by_cases hji : j = i
    · subst hji
      rw [List.getElem?_set_self hlt] at hj
      cases hj; exact hm
    · rw [List.getElem?_set_ne (fun e => hji e.symm)] at hj
      exact (h.md j q hj).mono (by omega)
  · obtain ⟨R, h1, h2⟩ := flat_set Wk.all ws i k hi
    exact (((h2 k').trans (hp.append_right R)).trans h1.symm).append_left L |>.trans h.perm
/-- A link of one of his items. -/
theorem StAll.put (h : StAll hd lk n N C l T L ws) (hi : ws[i]? = some k) (k' : Wk) {z v : Int} (hz : z ∈ k.puts) (z0 : 0 ≤ z) (z1 : z < n) (v0 : 0 ≤ v) (v1 : v < 18446744073709551616)
    (hm : MdOk hd lk n (l.set ((lk : Int) + z).toNat v) T (C + 1) L k'.puts k'.md) (hp : k'.all.Perm k.all) : StAll hd lk n N (C + 1) (l.set ((lk : Int) + z).toNat v) T L (ws.set i k') := by
  have hlt := (List.getElem?_eq_some_iff.1 hi).1
  refine ⟨h.rep.put (h.off hi hz) z0 z1 v0 v1, by have := h.tc; omega, fun j q hj => ?_, ?_⟩
  · by_cases hji : j = i
    · subst hji
      rw [List.getElem?_set_self hlt] at hj
      cases hj; exact hm
    · rw [List.getElem?_set_ne (fun e => hji e.symm)] at hj
      exact ((h.md j q hj).mono (by omega)).put h.rep.apart z0 z1 (h.sep hi hj hji hz)
  · obtain ⟨R, h1, h2⟩ := flat_set Wk.all ws i k hi
    exact (((h2 k').trans (hp.append_right R)).trans h1.symm).append_left L |>.trans h.perm
/-- An exchange. -/
theorem StAll.exch (h : StAll hd lk n N C l T L ws) (hi : ws[i]? = some k) (hC : C ≤ 1000000) (k' : Wk) {item : Int} {L' : List Int} (hl : Lnk lk n l item L') (hno : k'.md = .no) (hpu : k'.puts = []) (hp : (L' ++ k'.all).Perm (L ++ k.all)) :
    StAll hd lk n N (C + 1) (l.set hd (nextI (l.getD hd 0) item)) (T + 1) L' (ws.set i k') := by
  have hlt := (List.getElem?_eq_some_iff.1 hi).1
  have htc := h.tc
  obtain ⟨R, h1, h2⟩ := flat_set Wk.all ws i k hi
  have hperm : (L' ++ ((ws.set i k').map Wk.all).flatten).Perm (baseL n) := by
    refine (((h2 k').append_left L').trans ?_).trans ((h1.append_left L).symm.trans h.perm)
    rw [← List.append_assoc, ← List.append_assoc]
    exact hp.append_right R
  have hn' : L'.Nodup := (List.nodup_append.1 (hperm.nodup_iff.2 (baseL_nodup n))).1
  have hb : -1 ≤ item ∧ item < n := by
    rw [hl.head]
    cases hL : L' with
    | nil => simp; omega
    | cons z r => have := hl.items z (by rw [hL]; simp); simp; omega
  have hnx := next_eq (n := n) h.rep.tag (by omega) h.rep.ok.n1 hb.1 hb.2
  have hhd : hd < l.length := by rw [h.rep.ok.len]; exact h.rep.ok.hd1
  refine ⟨h.rep.exch (by omega) hl hn', by omega, fun j q hj => ?_, hperm⟩
  by_cases hji : j = i
  · subst hji
    rw [List.getElem?_set_self hlt] at hj
    cases hj
    rw [hno, hpu]; rfl
  · rw [List.getElem?_set_ne (fun e => hji e.symm)] at hj
    exact ((h.md j q hj).mono (by omega)).exch h.rep.apart hhd hnx.2.2 L'
/-- What becomes of a worker who pushes, who pops. -/
def puWk (s : Pu) (k : Wk) : Wk := if 4 ≤ s.ph then ⟨.no, k.has, []⟩ else ⟨.pu s, k.has, k.puts⟩
def poWk (s : Po) (k : Wk) : Wk := if 3 ≤ s.ph then ⟨.no, k.has ++ s.got, k.puts⟩ else ⟨.po s, k.has, k.puts⟩
theorem StAll.pu {s : Pu} (h : StAll hd lk n N C l T L ws) (hi : ws[i]? = some k) (hs : k.md = .pu s) (hC : C ≤ 1000000) :
    ∃ T' L', StAll hd lk n N (C + 1) (puMem hd lk n l s) T' L' (ws.set i (puWk (puStep hd l s) k)) := by
  obtain ⟨md, has, puts⟩ := k
  dsimp only at hs
  subst hs
  have H : PuMd hd lk n l T C puts s := h.md i _ hi
  have hinv := H.inv.step h.rep.ok
  obtain ⟨ph, c, zs, q, was⟩ := s
  obtain ⟨inv, ezs, nd, hph, tied, hwas, last⟩ := H
  dsimp only at ezs nd hph tied hwas last
  subst ezs
  have hne : zs ≠ [] := inv.ne
  have hp := List.length_pos_iff.2 hne
  have hn1 := h.rep.ok.n1
  have hlen := h.rep.ok.len
  have hlk := h.rep.ok.lk1
  have hap := h.rep.apart
  match ph, hph, inv, hinv, tied, hwas, last with
  | 0, _, inv, hinv, tied, hwas, last =>
    have hq := inv.i1 rfl
    dsimp only at hq
    have b0 := inv.items _ (getD_mem (zs := zs) (t := q) (by omega))
    have b1 := inv.items _ (getD_mem (zs := zs) (t := q + 1) (by omega))
    refine ⟨T, L, ?_⟩
    have em : puMem hd lk n l ⟨0, c, zs, q, was⟩ = l.set ((lk : Int) + zs.getD q 0).toNat (zs.getD (q + 1) 0 + 1) := rfl
    have es : puStep hd l ⟨0, c, zs, q, was⟩ = ⟨if q + 2 < zs.length then 0 else 1, c + 1, zs, q + 1, was⟩ := rfl
    rw [es] at hinv
    rw [em, es]
    have ew : puWk ⟨if q + 2 < zs.length then 0 else 1, c + 1, zs, q + 1, was⟩ ⟨.pu ⟨0, c, zs, q, was⟩, has, zs⟩ = ⟨.pu ⟨if q + 2 < zs.length then 0 else 1, c + 1, zs, q + 1, was⟩, has, zs⟩ := by
      unfold puWk; rw [if_neg]; dsimp only; split <;> omega
    rw [ew]
    refine h.put hi _ (getD_mem (zs := zs) (t := q) (by omega)) b0.1 b0.2 (by omega) (by omega) ?_ (List.Perm.refl _)
    have ht : Tied lk (l.set ((lk : Int) + zs.getD q 0).toNat (zs.getD (q + 1) 0 + 1)) zs (q + 1) := by
      intro t ht
      by_cases htq : t = q
      · subst htq; exact getD_set_eq _ (by omega)
      · have bt := inv.items _ (getD_mem (zs := zs) (t := t) (by omega))
        have : zs.getD q 0 ≠ zs.getD t 0 := fun e => htq (getD_inj nd (by omega) (by omega) e).symm
        rw [getD_set_ne _ (by omega)]
        exact tied t (by simpa using (by omega : t < q))
    refine ⟨hinv, rfl, nd, by dsimp only; split <;> omega, ?_, ?_, ?_⟩
    · dsimp only
      by_cases h2 : q + 2 < zs.length
      · simpa [h2] using ht
      · have e : zs.length - 1 = q + 1 := by omega
        simpa [h2, e] using ht
    · dsimp only; intro e; split at e <;> omega
    · dsimp only; intro e; split at e <;> omega
  | 1, _, inv, hinv, tied, hwas, last =>
    refine ⟨T, L, ?_⟩
    have em : puMem hd lk n l ⟨1, c, zs, q, was⟩ = l := rfl
    have es : puStep hd l ⟨1, c, zs, q, was⟩ = ⟨2, c + 1, zs, q, l.getD hd 0⟩ := rfl
    rw [es] at hinv
    rw [em, es]
    refine h.quiet hi ⟨.pu ⟨2, c + 1, zs, q, l.getD hd 0⟩, has, zs⟩ ⟨hinv, rfl, nd, (by dsimp only; decide), ?_, fun _ => ⟨by have := h.rep.tag; dsimp only; omega, fun _ => rfl⟩, fun e => by simp at e⟩ (List.Perm.refl _)
    simpa using tied
  | 2, _, inv, hinv, tied, hwas, last =>
    refine ⟨T, L, ?_⟩
    have em : puMem hd lk n l ⟨2, c, zs, q, was⟩ = l.set ((lk : Int) + zs.getD (zs.length - 1) 0).toNat (topI n was + 1) := rfl
    have es : puStep hd l ⟨2, c, zs, q, was⟩ = ⟨3, c + 1, zs, q, was⟩ := rfl
    rw [es] at hinv
    rw [em, es]
    have b0 := inv.items _ (getD_mem (zs := zs) (t := zs.length - 1) (by omega))
    have bt := topI_bd n was
    have e0 : (l.set ((lk : Int) + zs.getD (zs.length - 1) 0).toNat (topI n was + 1)).getD hd 0 = l.getD hd 0 := getD_set_ne _ (by omega)
    refine h.put hi ⟨.pu ⟨3, c + 1, zs, q, was⟩, has, zs⟩ (getD_mem (zs := zs) (t := zs.length - 1) (by omega)) b0.1 b0.2 (by omega) (by omega) ⟨hinv, rfl, nd, (by dsimp only; decide), ?_, fun _ => ⟨(hwas (by decide)).1, fun e => by rw [e0]; exact (hwas (by decide)).2 e⟩, fun _ => getD_set_eq _ (by omega)⟩ (List.Perm.refl _)
    have tied' : Tied lk l zs (zs.length - 1) := by simpa using tied
    have : Tied lk (l.set ((lk : Int) + zs.getD (zs.length - 1) 0).toNat (topI n was + 1)) zs (zs.length - 1) := by
      intro t ht
      have bt := inv.items _ (getD_mem (zs := zs) (t := t) (by omega))
      have : zs.getD (zs.length - 1) 0 ≠ zs.getD t 0 := fun e => by have := getD_inj nd (by omega) (by omega) e; omega
      rw [getD_set_ne _ (by omega)]
      exact tied' t ht
    simpa using this
  | 3, _, inv, hinv, tied, hwas, last =>
    have em : puMem hd lk n l ⟨3, c, zs, q, was⟩ = if l.getD hd 0 = was then l.set hd (nextI was (zs.getD 0 0)) else l := rfl
    have es : puStep hd l ⟨3, c, zs, q, was⟩ = ⟨if l.getD hd 0 = was then 4 else 1, c + 1, zs, q, was⟩ := rfl
    rw [es] at hinv
    rw [em, es]
    by_cases hw : l.getD hd 0 = was
    · rw [if_pos hw, if_pos hw]
      subst hw
      refine ⟨T + 1, zs ++ L, ?_⟩
      have tied' : Tied lk l zs (zs.length - 1) := by simpa using tied
      have last' := last rfl
      have hl := h.rep.lnk.onto zs inv.items (fun t ht => by
        by_cases htk : t = zs.length - 1
        · rw [htk, last', getD_end (zs := zs) _ (by omega)]
        · rw [tied' t (by omega), getD_any (zs := zs) (topI n (l.getD hd 0)) (show t + 1 < zs.length by omega)])
      have e0 : zs.getD 0 (topI n (l.getD hd 0)) = zs.getD 0 0 := by
        exact getD_any _ hp
      rw [e0] at hl
      refine h.exch hi hC ⟨.no, has, []⟩ hl rfl rfl ?_
      show ((zs ++ L) ++ (has ++ [])).Perm (L ++ (has ++ zs))
      rw [List.append_nil, ← List.append_assoc]
      refine (List.perm_append_comm (l₁ := zs) (l₂ := L)).append_right has |>.trans ?_
      rw [List.append_assoc, List.append_assoc]
      exact (List.perm_append_comm).append_left L
    · rw [if_neg hw, if_neg hw]
      rw [if_neg hw] at hinv
      exact ⟨T, L, h.quiet hi ⟨.pu ⟨1, c + 1, zs, q, was⟩, has, zs⟩ ⟨hinv, rfl, nd, (by dsimp only; decide), by simpa using tied, fun e => by simp at e, fun e => by simp at e⟩ (List.Perm.refl _)⟩
  | p + 4, hph, _, _, _, _, _ => exact absurd hph (by omega)
theorem StAll.po {s : Po} (h : StAll hd lk n N C l T L ws) (hi : ws[i]? = some k) (hs : k.md = .po s) (hC : C ≤ 1000000) :
    ∃ T' L', StAll hd lk n N (C + 1) (poMem hd l s) T' L' (ws.set i (poWk (poStep hd lk n l s) k)) := by
  obtain ⟨md, has, puts⟩ := k
  dsimp only at hs
  subst hs
  have H : PoMd hd lk n l T C L puts s := h.md i _ hi
  have hinv := H.inv.step h.rep.ok
  obtain ⟨ph, c, most, under, was, got⟩ := s
  obtain ⟨inv, epu, hph, hwas, hgot⟩ := H
  dsimp only at epu hph hwas hgot
  subst epu
  have hap := h.rep.apart
  match ph, hph, inv, hinv, hwas, hgot with
  | 0, _, inv, hinv, hwas, hgot =>
    refine ⟨T, L, ?_⟩
    have em : poMem hd l ⟨0, c, most, under, was, got⟩ = l := rfl
    have es : poStep hd lk n l ⟨0, c, most, under, was, got⟩ = if topI n (l.getD hd 0) < 0 then ⟨3, c + 1, most, under, l.getD hd 0, []⟩ else ⟨1, c + 1, most, under, l.getD hd 0, [topI n (l.getD hd 0)]⟩ := rfl
    rw [es] at hinv
    rw [em, es]
    by_cases ht : topI n (l.getD hd 0) < 0
    · rw [if_pos ht]
      refine h.quiet hi ⟨.no, has ++ [], []⟩ rfl (by simp [Wk.all])
    · rw [if_neg ht] at hinv ⊢
      refine h.quiet hi ⟨.po ⟨1, c + 1, most, under, l.getD hd 0, [topI n (l.getD hd 0)]⟩, has, []⟩ ⟨hinv, rfl, (by dsimp only; decide), fun _ => ⟨by have := h.rep.tag; dsimp only; omega, fun _ => rfl⟩, fun _ _ => ?_⟩ (List.Perm.refl _)
      have hl := h.rep.lnk
      cases hL : L with
      | nil => rw [hL] at hl; have : topI n (l.getD hd 0) = -1 := hl; omega
      | cons z r =>
        rw [hL] at hl
        refine ⟨by simp, by simp, ?_, fun e => by simp at e⟩
        show List.take 1 (z :: r) = [topI n (l.getD hd 0)]
        rw [hl.1]; rfl
  | 1, _, inv, hinv, hwas, hgot =>
    refine ⟨T, L, ?_⟩
    have em : poMem hd l ⟨1, c, most, under, was, got⟩ = l := rfl
    have es : poStep hd lk n l ⟨1, c, most, under, was, got⟩ = poLink lk n l ⟨1, c, most, under, was, got⟩ := rfl
    rw [es] at hinv
    rw [em, es]
    have hb : was = l.getD hd 0 → poBelow lk n l ⟨1, c, most, under, was, got⟩ = L.getD got.length (-1) := by
      intro hw
      obtain ⟨g1, g2, g3, _⟩ := hgot (by decide) hw
      have gp := List.length_pos_iff.2 g1
      have e1 : got.getD (got.length - 1) 0 = L.getD (got.length - 1) 0 := by
        conv => lhs; rw [← g3]
        rw [List.length_take, Nat.min_eq_left g2, List.getD_eq_getElem?_getD, List.getElem?_take_of_lt (by omega), ← List.getD_eq_getElem?_getD]
      have := h.rep.lnk.below (got.length - 1) (by omega)
      rw [show got.length - 1 + 1 = got.length by omega] at this
      unfold poBelow
      dsimp only
      rw [e1, this]
    unfold poLink at hinv ⊢
    by_cases hbr : 0 ≤ poBelow lk n l ⟨1, c, most, under, was, got⟩ ∧ (got.length : Int) < most
    · rw [if_pos hbr] at hinv ⊢
      generalize poBelow lk n l ⟨1, c, most, under, was, got⟩ = u at *
      refine h.quiet hi ⟨.po ⟨1, c + 1, most, u, was, got ++ [u]⟩, has, []⟩ ⟨hinv, rfl, (by dsimp only; decide), fun _ => hwas (by decide), fun _ hw => ?_⟩ (List.Perm.refl _)
      obtain ⟨g1, g2, g3, _⟩ := hgot (by decide) hw
      have hu := hb hw
      have hlt : got.length < L.length := by
        refine Nat.lt_of_not_le fun hle => ?_
        rw [getD_end (zs := L) _ hle] at hu
        have := hbr.1
        omega
      refine ⟨by simp, by show (got ++ [u]).length ≤ L.length; rw [List.length_append]; exact hlt, ?_, fun e => by simp at e⟩
      dsimp only
      rw [List.length_append, List.length_singleton, ← take_snocD hlt, g3, hu]
    · rw [if_neg hbr] at hinv ⊢
      generalize poBelow lk n l ⟨1, c, most, under, was, got⟩ = u at *
      refine h.quiet hi ⟨.po ⟨2, c + 1, most, u, was, got⟩, has, []⟩ ⟨hinv, rfl, (by dsimp only; decide), fun _ => hwas (by decide), fun _ hw => ?_⟩ (List.Perm.refl _)
      obtain ⟨g1, g2, g3, _⟩ := hgot (by decide) hw
      exact ⟨g1, g2, g3, fun _ => hb hw⟩
  | 2, _, inv, hinv, hwas, hgot =>
    have em : poMem hd l ⟨2, c, most, under, was, got⟩ = if l.getD hd 0 = was then l.set hd (nextI was under) else l := rfl
    have es : poStep hd lk n l ⟨2, c, most, under, was, got⟩ = ⟨if l.getD hd 0 = was then 3 else 0, c + 1, most, under, was, got⟩ := rfl
    rw [es] at hinv
    rw [em, es]
    by_cases hw : l.getD hd 0 = was
    · rw [if_pos hw, if_pos hw]
      obtain ⟨g1, g2, g3, g4⟩ := hgot (by decide) hw.symm
      have gu := g4 rfl
      subst hw
      refine ⟨T + 1, L.drop got.length, ?_⟩
      rw [gu]
      refine h.exch hi hC ⟨.no, has ++ got, []⟩ (h.rep.lnk.drop got.length) rfl rfl ?_
      show (L.drop got.length ++ ((has ++ got) ++ [])).Perm (L ++ (has ++ []))
      rw [List.append_nil, List.append_nil]
      have e : L = got ++ L.drop got.length := by conv => lhs; rw [← List.take_append_drop got.length L, g3]
      conv => rhs; rw [e]
      refine (List.perm_append_comm).trans ?_
      rw [List.append_assoc]
      exact List.perm_append_comm
    · rw [if_neg hw, if_neg hw]
      rw [if_neg hw] at hinv
      exact ⟨T, L, h.quiet hi ⟨.po ⟨0, c + 1, most, under, was, got⟩, has, []⟩ ⟨hinv, rfl, (by dsimp only; decide), fun e => by simp at e, fun e => by simp at e⟩ (List.Perm.refl _)⟩
  | p + 3, hph, _, _, _, _ => exact absurd hph (by omega)
/-- A machine more. -/
theorem StAll.newPu (h : StAll hd lk n N C l T L ws) (hi : ws[i]? = some k) (hs : k.md = .no) (hC : 0 ≤ C) (c : Nat) (hc1 : 1 ≤ c) (hc2 : c ≤ k.has.length) :
    itemsB n (k.has.take c) ∧ StAll hd lk n N (C + 1) l T L (ws.set i ⟨.pu (pu0 (k.has.take c)), k.has.drop c, k.has.take c⟩) := by
  have hpu : k.puts = [] := by have := h.md i k hi; rw [hs] at this; exact this
  have hin : ∀ z ∈ k.has, 0 ≤ z ∧ z < n := fun z hz => by
    have : z ∈ baseL n := h.perm.mem_iff.1 (List.mem_append_right _ (mem_flat hi (List.mem_append_left _ hz)))
    exact baseL_mem.1 this
  have hnd : k.has.Nodup := by
    have h1 : ((ws.map Wk.all).flatten).Nodup := (List.nodup_append.1 h.nodup).2.1
    obtain ⟨R, h2, _⟩ := flat_set Wk.all ws i k hi
    have h3 := (List.nodup_append.1 (h2.nodup_iff.1 h1)).1
    unfold Wk.all at h3
    exact (List.nodup_append.1 h3).1
  have hI : itemsB n (k.has.take c) := ⟨fun z hz => hin z (List.mem_of_mem_take hz), List.Sublist.nodup (List.take_sublist _ _) hnd⟩
  have hlen : (k.has.take c).length = c := by rw [List.length_take]; omega
  have hne : k.has.take c ≠ [] := fun e => by rw [e] at hlen; simp at hlen; omega
  have hle : k.has.length ≤ n := nodup_len n _ hnd hin
  have hn1 := h.rep.ok.n1
  refine ⟨hI, h.quiet hi _ ⟨(pu0_inv hne hI (by omega)).mono (by omega), rfl, hI.2, ?_, ?_, ?_, ?_⟩ ?_⟩
  · show puPh _ < 4
    unfold puPh
    rw [if_neg (by omega)]
    split <;> omega
  · dsimp only
    intro t ht
    exfalso
    have ht' : t < (if puPh (k.has.take c).length = 0 then 0 else (k.has.take c).length - 1) := ht
    rw [hlen] at ht'
    unfold puPh at ht'
    rw [if_neg (show ¬ c = 0 by omega)] at ht'
    split at ht'
    · rw [if_neg (by decide)] at ht'; omega
    · rw [if_pos rfl] at ht'; omega
  · intro e
    exfalso
    dsimp only at e
    unfold puPh at e
    split at e
    · omega
    · split at e <;> omega
  · intro e
    exfalso
    dsimp only at e
    unfold puPh at e
    split at e
    · omega
    · split at e <;> omega
  · show (k.has.drop c ++ k.has.take c).Perm (k.has ++ k.puts)
    rw [hpu, List.append_nil]
    conv => rhs; rw [← List.take_append_drop c k.has]
    exact List.perm_append_comm
theorem StAll.newPo (h : StAll hd lk n N C l T L ws) (hi : ws[i]? = some k) (hs : k.md = .no) (hC : 0 ≤ C) (q : Int) :
    StAll hd lk n N (C + 1) l T L (ws.set i ⟨.po ⟨0, 0, q, 0, 0, []⟩, k.has, k.puts⟩) := by
  have hpu : k.puts = [] := by have := h.md i k hi; rw [hs] at this; exact this
  refine h.quiet hi _ ⟨⟨fun e => by simp at e, by simp, by simp, by simp, by simp, by simp, by dsimp only; omega⟩, hpu, (by dsimp only; decide), fun e => by simp at e, fun e => by simp at e⟩ (List.Perm.refl _)
/-- All that are somewhere. -/
theorem StAll.total (h : StAll hd lk n N C l T L ws) : (stList hd lk n l ++ (ws.map Wk.all).flatten).Perm (baseL n) := by rw [h.rep.list]; exact h.perm
end
end Go.Proofs.Ytcohhfndaogikaa
