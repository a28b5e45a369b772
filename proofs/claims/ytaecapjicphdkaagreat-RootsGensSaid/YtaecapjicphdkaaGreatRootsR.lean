/- ends: a region is ended, its slot given back, by one alone, walked. -/
import Derived.Test.YtaecapjicphdkaaGreatRootsP
import Derived.Test.YtaecapjicphdkaaGreatRootsM
namespace Go.Proofs.YtaecapjicphdkaaGreat
set_option linter.unusedVariables false
set_option linter.unusedSimpArgs false
open Go Go.RowKit
set_option maxRecDepth 100000
set_option maxHeartbeats 4000000

def enRun (q : Nat) (gen : Int) : Nat → List Int × En → List Int × En
  | 0, p => p
  | k + 1, p => (enMem q (enRun q gen k p).1 (enRun q gen k p).2, enStep q gen (enRun q gen k p).1 (enRun q gen k p).2)
abbrev enS : En := ⟨0, 0, 0, 0, -1, 0⟩
def WordsOk (l : List Int) : Prop := ∀ v ∈ l, 0 ≤ v ∧ v < 18446744073709551616
theorem WordsOk.set {l : List Int} (h : WordsOk l) (i : Nat) {v : Int} (h0 : 0 ≤ v) (h1 : v < 18446744073709551616) : WordsOk (l.set i v) := fun u hu => by
  rcases List.mem_or_eq_of_mem_set hu with hu | rfl
  · exact h u hu
  · exact ⟨h0, h1⟩
theorem enRun_ok {q : Nat} {gen : Int} {l : List Int} (hw : WordsOk l) (hq : q < l.length) : ∀ k : Nat, WordsOk (enRun q gen k (l, enS)).1 ∧ (enRun q gen k (l, enS)).1.length = l.length ∧ 0 ≤ (enRun q gen k (l, enS)).2.was ∧ (enRun q gen k (l, enS)).2.was < 18446744073709551616 ∧ 0 ≤ (enRun q gen k (l, enS)).2.c ∧ (enRun q gen k (l, enS)).2.c ≤ k
  | 0 => ⟨hw, rfl, Int.le_refl 0, by show (0 : Int) < 18446744073709551616; omega, Int.le_refl 0, by show (0 : Int) ≤ ((0 : Nat) : Int); omega⟩
  | k + 1 => by
    obtain ⟨h1, h2, h3, h4, h5, h6⟩ := enRun_ok hw hq k
    show WordsOk (enMem q (enRun q gen k (l, enS)).1 (enRun q gen k (l, enS)).2) ∧ (enMem q (enRun q gen k (l, enS)).1 (enRun q gen k (l, enS)).2).length = _ ∧ 0 ≤ (enStep q gen (enRun q gen k (l, enS)).1 (enRun q gen k (l, enS)).2).was ∧ (enStep q gen (enRun q gen k (l, enS)).1 (enRun q gen k (l, enS)).2).was < _ ∧ 0 ≤ (enStep q gen (enRun q gen k (l, enS)).1 (enRun q gen k (l, enS)).2).c ∧ (enStep q gen (enRun q gen k (l, enS)).1 (enRun q gen k (l, enS)).2).c ≤ _
    generalize enRun q gen k (l, enS) = r at *
    obtain ⟨l2, ph, c, was, code, chunk, point⟩ := r
    dsimp only at h1 h2 h3 h4 h5 h6 ⊢
    have hb := h1 (l2.getD q 0) (by rw [List.getD_eq_getElem?_getD, List.getElem?_eq_getElem (by omega)]; exact List.getElem_mem (by omega))
    match ph with
    | 0 =>
      refine ⟨h1, h2, ?_⟩
      show 0 ≤ (if liveW (l2.getD q 0) gen = true then (_ : En) else _).was ∧ (if liveW (l2.getD q 0) gen = true then (_ : En) else _).was < _ ∧ 0 ≤ (if liveW (l2.getD q 0) gen = true then (_ : En) else _).c ∧ (if liveW (l2.getD q 0) gen = true then (_ : En) else _).c ≤ _
      split
      · exact ⟨hb.1, hb.2, by show 0 ≤ c + 1; omega, by show c + 1 ≤ _; push_cast; omega⟩
      · exact ⟨hb.1, hb.2, by show 0 ≤ c + 1; omega, by show c + 1 ≤ _; push_cast; omega⟩
    | 1 =>
      show WordsOk (if l2.getD q 0 = was then l2.set q (rootI (was / 4294967296) 0 0 0) else l2) ∧ (if l2.getD q 0 = was then l2.set q (rootI (was / 4294967296) 0 0 0) else l2).length = _ ∧ 0 ≤ (if l2.getD q 0 = was then (_ : En) else _).was ∧ (if l2.getD q 0 = was then (_ : En) else _).was < _ ∧ 0 ≤ (if l2.getD q 0 = was then (_ : En) else _).c ∧ (if l2.getD q 0 = was then (_ : En) else _).c ≤ _
      split
      · exact ⟨WordsOk.set h1 _ (rootI_bd _ _ _ _).1 (rootI_bd _ _ _ _).2, by rw [List.length_set]; exact h2, h3, h4, by show 0 ≤ c + 1; omega, by show c + 1 ≤ _; push_cast; omega⟩
      · exact ⟨h1, h2, h3, h4, by show 0 ≤ c + 1; omega, by show c + 1 ≤ _; push_cast; omega⟩
    | j + 2 => exact ⟨h1, h2, h3, h4, h5, by show c ≤ _; push_cast; omega⟩
theorem enRun_stop {q k : Nat} {gen : Int} {p : List Int × En} (h : (enRun q gen k p).2.ph = 2) : ∀ j : Nat, enRun q gen (k + j) p = enRun q gen k p
  | 0 => rfl
  | j + 1 => by
    show (enMem q (enRun q gen (k + j) p).1 (enRun q gen (k + j) p).2, enStep q gen (enRun q gen (k + j) p).1 (enRun q gen (k + j) p).2) = _
    rw [enRun_stop h j]
    generalize enRun q gen k p = r at *
    obtain ⟨l, ph, c, was, code, chunk, point⟩ := r
    have h : ph = 2 := h
    subst h
    rfl
theorem en_dead {q : Nat} {gen : Int} {l : List Int} (h : liveW (l.getD q 0) gen = false) : enRun q gen 5 (l, enS) = (l, ⟨2, 1, l.getD q 0, 3, -1, 1⟩) := by
  have e1 : enRun q gen 1 (l, enS) = (l, ⟨2, 1, l.getD q 0, 3, -1, 1⟩) := by
    show (l, (if liveW (l.getD q 0) gen = true then (_ : En) else _)) = _
    rw [h]; rfl
  rw [← e1]
  exact enRun_stop (k := 1) (by rw [e1]) 4
theorem en_live {q : Nat} {gen : Int} {l : List Int} (h : liveW (l.getD q 0) gen = true) : enRun q gen 5 (l, enS) = (l.set q (rootI (l.getD q 0 / 4294967296) 0 0 0), ⟨2, 2, l.getD q 0, 0, chunkI (l.getD q 0 / 65536 % 65536), 2⟩) := by
  have e1 : enRun q gen 1 (l, enS) = (l, ⟨1, 1, l.getD q 0, 0, -1, 0⟩) := by
    show (l, (if liveW (l.getD q 0) gen = true then (_ : En) else _)) = _
    rw [h]; rfl
  have e2 : enRun q gen 2 (l, enS) = (l.set q (rootI (l.getD q 0 / 4294967296) 0 0 0), ⟨2, 2, l.getD q 0, 0, chunkI (l.getD q 0 / 65536 % 65536), 2⟩) := by
    show (enMem q (enRun q gen 1 (l, enS)).1 (enRun q gen 1 (l, enS)).2, enStep q gen (enRun q gen 1 (l, enS)).1 (enRun q gen 1 (l, enS)).2) = _
    rw [e1]
    show ((if l.getD q 0 = l.getD q 0 then _ else _), (if l.getD q 0 = l.getD q 0 then (_ : En) else _)) = _
    rw [if_pos rfl, if_pos rfl]; rfl
  rw [← e2]
  exact enRun_stop (k := 2) (by rw [e2]) 3
theorem enStep_countR (q : Nat) (gen : Int) (l : List Int) (s : En) : (enStep q gen l s).c = s.c + enCount s := by
  obtain ⟨ph, c, was, code, chunk, point⟩ := s
  match ph with
  | 0 =>
    show (if liveW (l.getD q 0) gen = true then (_ : En) else _).c = c + 1
    split <;> rfl
  | 1 =>
    show (if l.getD q 0 = was then (_ : En) else _).c = c + 1
    split <;> rfl
  | k + 2 =>
    have e1 : enCount ⟨k + 2, c, was, code, chunk, point⟩ = 0 := by unfold enCount; rw [if_neg (show ¬ k + 2 < 2 by omega)]
    rw [e1, Int.add_zero]; rfl
theorem puRun_other {hd lk n i : Nat} (h1 : i ≠ hd) (h2 : i < lk ∨ lk + n ≤ i) {p : List Int × Pu} {N : Nat} {C : Int} (h : StOk hd lk n N p.1) (H : PuInv n C p.2) : ∀ k : Nat, (puRun hd lk n k p).1.getD i 0 = p.1.getD i 0
  | 0 => rfl
  | k + 1 => by
    obtain ⟨ok, inv⟩ := puRun_inv h H k
    show (puMem hd lk n (puRun hd lk n k p).1 (puRun hd lk n k p).2).getD i 0 = _
    rw [← puRun_other h1 h2 h H k]
    generalize puRun hd lk n k p = r at *
    obtain ⟨l, ph, c, zs, j, was⟩ := r
    dsimp only at *
    have hit : ∀ t : Nat, t < zs.length → 0 ≤ zs.getD t 0 ∧ zs.getD t 0 < n := fun t ht => items_at (s := ⟨ph, c, zs, j, was⟩) inv.items ht
    have hz := List.length_pos_iff.2 inv.ne
    match ph with
    | 0 =>
      have hj := inv.i1 rfl
      have := hit j (by dsimp only at hj; omega)
      show (l.set ((lk : Int) + zs.getD j 0).toNat _).getD i 0 = l.getD i 0
      exact getD_set_ne _ (by omega)
    | 1 => rfl
    | 2 =>
      have := hit (zs.length - 1) (by dsimp only at hz; omega)
      show (l.set ((lk : Int) + zs.getD (zs.length - 1) 0).toNat _).getD i 0 = l.getD i 0
      exact getD_set_ne _ (by omega)
    | 3 =>
      show (if l.getD hd 0 = was then l.set hd (nextI was (zs.getD 0 0)) else l).getD i 0 = l.getD i 0
      split
      · exact getD_set_ne _ (Ne.symm h1)
      · rfl
    | t + 4 => rfl
end Go.Proofs.YtaecapjicphdkaaGreat
