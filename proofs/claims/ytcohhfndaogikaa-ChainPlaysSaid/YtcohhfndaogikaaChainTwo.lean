/- The program's chain beside the document's: their words agree. -/
import Derived.Test.YtcohhfndaogikaaChainG
import Derived.Test.YtcohhfndaogikaaR11S
import Derived.Test.YtcohhfndaogikaaReads3
namespace Go.Proofs.Ytcohhfndaogikaa
set_option linter.unusedVariables false
set_option linter.unusedSimpArgs false
open Go Go.RowKit
set_option maxRecDepth 100000

/-- The words that both use agree. -/
def Ag (l r : List Int) : Prop := l.length = r.length ∧ ∀ i : Nat, (i = 0 ∨ 6 ≤ i) → l.getD i 0 = r.getD i 0
theorem Ag.set {l r : List Int} (h : Ag l r) (q : Nat) (v : Int) (hq : q < l.length) : Ag (l.set q v) (r.set q v) := by
  refine ⟨by rw [List.length_set, List.length_set, h.1], fun i hi => ?_⟩
  by_cases e : i = q
  · subst e
    rw [getD_set_eq _ hq, getD_set_eq _ (by rw [← h.1]; exact hq)]
  · rw [getD_set_ne _ (Ne.symm e), getD_set_ne _ (Ne.symm e)]; exact h.2 i hi
theorem Ag.list {l r : List Int} (h : Ag l r) (n : Nat) : ∀ (f : Nat) (i : Int), listFrom 6 n l f i = listFrom 6 n r f i
  | 0, _ => rfl
  | f + 1, i => by
    by_cases hi : i < 0
    · rw [lf_neg _ hi, lf_neg _ hi]
    · rw [lf_cons f (by omega), lf_cons f (by omega), h.2 _ (.inr (by omega)), h.list n f]
theorem Ag.pool {l r : List Int} (h : Ag l r) (n : Nat) : stList 0 6 n l = stList 0 6 n r := by
  unfold stList
  rw [h.2 0 (.inl rfl), h.list]
theorem Ag.start (l : List Int) (v : Int) (a b : Nat) (ha : 0 < a ∧ a < 6) (hb : 0 < b ∧ b < 6) : Ag l ((l.set a v).set b 1) := by
  refine ⟨by simp, fun i hi => ?_⟩
  rw [getD_set_ne _ (by omega), getD_set_ne _ (by omega)]
theorem Ag.start2 (L : List Int) : Ag L (stFill 1 5 1 L) := by
  have e : stFill 1 5 1 L = (L.set 5 0).set 1 1 := by simp [stFill, fillTo, List.set_set]
  rw [e]
  exact Ag.start L 0 5 1 (by omega) (by omega)
theorem lf_facts {lk K : Nat} {l : List Int} {u : Int} {L : List Int} (hw0 : ∀ v ∈ l, 0 ≤ v) (u0 : 0 ≤ u) (u1 : u < K) (hL : listFrom lk K l K u = L) :
    L.take 1 = [u] ∧ 1 ≤ L.length ∧ L.length ≤ K ∧ (∀ j, j < L.length → 0 ≤ L.getD j 0 ∧ L.getD j 0 < K) ∧ (∀ j, j + 1 < L.length → belowI K (l.getD ((lk : Int) + L.getD j 0).toNat 0) = L.getD (j + 1) 0 ∧ 0 ≤ L.getD (j + 1) 0) ∧ (∀ j, j + 1 = L.length → belowI K (l.getD ((lk : Int) + L.getD j 0).toNat 0) < 0 ∨ j + 1 = K) := by
  have hLl : L.length ≤ K := hL ▸ lf_len K u
  have hLm : ∀ z ∈ L, 0 ≤ z ∧ z < K := hL ▸ lf_mem hw0 K u u1
  have hLg : ∀ j : Nat, j + 1 < L.length → L.getD (j + 1) 0 = belowI K (l.getD ((lk : Int) + L.getD j 0).toNat 0) ∧ 0 ≤ L.getD (j + 1) 0 := hL ▸ lf_get K u
  have hLe : L ≠ [] → L.length < K → belowI K (l.getD ((lk : Int) + L.getD (L.length - 1) 0).toNat 0) < 0 := hL ▸ lf_end K u
  obtain ⟨K', hK'⟩ : ∃ K', K = K' + 1 := ⟨K - 1, by omega⟩
  have hL1 : L.take 1 = [u] ∧ 1 ≤ L.length := by
    rw [← hL]
    conv => rw [show listFrom lk K l K u = u :: listFrom lk K l K' (belowI K (l.getD ((lk : Int) + u).toNat 0)) by conv => lhs; rw [show listFrom lk K l K u = listFrom lk K l (K' + 1) u by rw [← hK']]; rw [lf_cons K' u0]]
    simp
  have hne : L ≠ [] := List.length_pos_iff.1 (by omega)
  refine ⟨hL1.1, hL1.2, hLl, fun j hj => hLm _ (getD_mem hj), fun j hj => ⟨(hLg j hj).1.symm, (hLg j hj).2⟩, fun j hj => ?_⟩
  rcases Nat.lt_or_ge L.length K with h1 | h1
  · left
    have := hLe hne h1
    rwa [show L.length - 1 = j by omega] at this
  · right; omega
section
variable {w : World} {m bb N X P lk K W g gb M' Pl : Nat} {l r : List Int} {cc ce : Int} {p d s c b p' d' s' c' b' : Int}
theorem ChAt.updS {S : List Nat} {w' : World} (h : ChAt w m bb N X P lk K p d s c b l cc) (hu : Upd S w w') (h1 : X ∉ S) (h2 : P ∉ S) (h3 : m ∉ S) (h4 : bb ∉ S) : ChAt w' m bb N X P lk K p d s c b l cc := by
  obtain ⟨x, M⟩ := h.mem
  exact h.step hu h1 h2 (M.upd hu h3 h4) h.ok h.c0
theorem ChAt.apart (h : ChAt w m bb N X P lk K p d s c b l cc) (D : RChAt w W g gb M' Pl lk K p' d' s' c' b' r ce) (hne : bb ≠ gb) : (X ∉ [g, gb] ∧ P ∉ [g, gb] ∧ m ∉ [g, gb] ∧ bb ∉ [g, gb]) ∧ (W ∉ [m, bb] ∧ Pl ∉ [m, bb] ∧ g ∉ [m, bb] ∧ gb ∉ [m, bb]) := by
  obtain ⟨x, M⟩ := h.mem
  obtain ⟨_, _, hW⟩ := D.hW
  simp only [List.mem_cons, List.not_mem_nil, or_false, not_or]
  exact ⟨⟨⟨h.hX.ne D.M.hg (by decide), h.hX.ne D.M.hb (by decide)⟩, ⟨h.hP.ne D.M.hg (by decide), h.hP.ne D.M.hb (by decide)⟩, ⟨M.hg.ne D.M.hg (by decide), M.hg.ne D.M.hb (by decide)⟩, ⟨M.hb.ne D.M.hg (by decide), hne⟩⟩,
    ⟨hW.ne M.hg (by decide), hW.ne M.hb (by decide)⟩, ⟨D.hP.ne M.hg (by decide), D.hP.ne M.hb (by decide)⟩, ⟨D.M.hg.ne M.hg (by decide), D.M.hg.ne M.hb (by decide)⟩, ⟨D.M.hb.ne M.hg (by decide), Ne.symm hne⟩⟩
/-- A block of another type is none of a chain's. -/
theorem ChAt.not_at {T : Nat} {cs : Array Value} {t : TypeId} (h : ChAt w m bb N X P lk K p d s c b l cc) (hT : Has w T cs t) (n1 : 114 ≠ t) (n2 : 138 ≠ t) (n3 : 119 ≠ t) (n4 : 22 ≠ t) : X ≠ T ∧ P ≠ T ∧ m ≠ T ∧ bb ≠ T := by
  obtain ⟨x, M⟩ := h.mem
  exact ⟨h.hX.ne hT n1, h.hP.ne hT n2, M.hg.ne hT n3, M.hb.ne hT n4⟩
theorem xlist_any (first : Int) (h : ChAt w m bb N X P lk K p d s c b l cc) (f0 : -1 ≤ first) (f1 : first < K) :
    Calls Try.prog 19 #[.pointer (some ⟨X, 0, none⟩), .int .i64 first] w fun e w' => ∃ v', e = .returned v' ∧ Keeps w w' ∧ Row w.heap.size 3 w' v' (ivals (listFrom lk K l K first)) := by
  obtain ⟨x, M⟩ := h.mem
  by_cases h0 : 0 ≤ first
  · exact xlist_c first h.hX M h.ok h.may h.hlk (inB_yes h0 f1)
  · refine (xlist_no first h.hX (by unfold inB; simp; omega)).mono ?_
    rintro e w' ⟨rfl, rfl⟩
    exact ⟨_, rfl, Keeps.refl _, by rw [lf_neg _ (by omega)]; exact Row.nil _ _ _⟩
/-- The document's New as a chain that stands. -/
theorem r11New_at (K : Nat) (w : World) (h1 : 3 ≤ K) (h2 : K ≤ 10) :
    Calls Try.prog 29 #[cfgV 1 K 8 1 0 1] w fun e w' => ∃ W g gb Pl : Nat, e = .returned (.pointer (some ⟨W, 0, none⟩)) ∧ Keeps w w' ∧ w.heap.size ≤ W ∧ w.heap.size ≤ g ∧ w.heap.size ≤ gb ∧ w.heap.size ≤ Pl ∧
      RChAt w' W g gb (9 * K + 6) Pl 6 K 1 8 1 0 1 (stFill 1 5 1 (stFill 0 6 K (List.replicate (9 * K + 6) 0))) 0 := by
  have hm := cmay (K := K) (by omega) (by omega)
  have hl := (lenI_eq hm).1
  refine (r11New_c (N := 9 * K + 6) (lk := 6) (ls := 5) (s := 1) hm (by rw [show lenI 1 K 8 ((1 : Nat) : Int) 0 1 = lenI 1 K 8 1 0 1 from rfl, hl]; omega) (by decide) (by decide)).mono ?_
  rintro e w' ⟨W, g, gb, Pl, Sp, E, rfl, k0, ⟨z1, z2, z3, z4, z5⟩, -, HW, HP, HS, M⟩
  have ok0 : StOk 0 6 K (9 * K + 6) (List.replicate (9 * K + 6) 0) := ⟨by simp, by omega, by omega, by omega, by omega, fun v hv => by have := List.eq_of_mem_replicate hv; omega⟩
  have ok1 := (StRep.fill ok0 (.inl (by omega)) (by omega)).ok
  have ok2 : StOk 1 5 1 (9 * K + 6) (stFill 0 6 K (List.replicate (9 * K + 6) 0)) := ⟨ok1.len, by omega, by omega, by omega, by omega, ok1.words⟩
  have ok3 := (StRep.fill ok2 (.inl (by omega)) (by omega)).ok
  exact ⟨W, g, gb, Pl, rfl, k0, z1, z2, z3, z4, ⟨⟨_, _, HW⟩, HP, M, ⟨ok3.len, by omega, by omega, by omega, by omega, ok3.words⟩, hm, by decide⟩⟩
end
end Go.Proofs.Ytcohhfndaogikaa
