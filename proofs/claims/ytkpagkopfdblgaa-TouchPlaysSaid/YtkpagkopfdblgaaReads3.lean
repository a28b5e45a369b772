/- A slice of arrays or structs of integers as a call's argument: 'ReadsF'. -/
import Derived.Test.YtkpagkopfdblgaaReads
import Derived.Test.YtkpagkopfdblgaaFlat
import Derived.Deep.Slices
import Derived.OpenShut
namespace Go.Proofs.Ytkpagkopfdblgaa
set_option linter.unusedVariables false
set_option linter.unusedSimpArgs false
open Go Go.RowKit Go.Joins Go.ChangeShapes Go.WideShapes Go.Deep

/-- A slice of things of integers of these kinds: each cell. -/
def ReadsF (ks : List IntKind) (W : World) (v : Value) (zs : List (List Int)) : Prop :=
  ∃ a cap, v = .slice a zs.length cap ∧ (zs ≠ [] → ∃ b off, a = some ⟨b, off, none⟩ ∧ b < W.heap.size ∧
    ∀ (i : Nat) (z : List Int), zs[i]? = some z → ∀ (j : Nat) (u : Value), (flatV ks z)[j]? = some u → W.cell? ⟨b, off + i * ks.length + j, none⟩ = some u)

theorem flatV_len : ∀ (ks : List IntKind) (z : List Int), z.length = ks.length → (flatV ks z).length = ks.length
  | [], z, _ => by cases z <;> rfl
  | k :: ks, [], h => by simp at h
  | k :: ks, n :: z, h => by simp [flatV]; exact flatV_len ks z (by simpa using h)
section
variable {H : Type} {enc : TypeId × Value → H} {P : Program} {w : World} {base : Nat} {spare : Nat → Bool} {held : Bool}
theorem flat_of_trods {n : Nat} : ∀ (ks : List IntKind) (ts : List TypeId) (cs : List Value), cs.length = ks.length → ts.map P.underlying = ks.map (fun k => some (.int k)) →
    (∀ (j : Nat) (t : TypeId), ts[j]? = some t → ∃ c y, cs[j]? = some c ∧ DataW.trod enc P w base spare held n t [c] = some y) → ∃ ns : List Int, ns.length = ks.length ∧ cs = flatV ks ns ∧ ∀ (i : Nat) (k : IntKind) (n : Int), ks[i]? = some k → ns[i]? = some n → (Lit.int k n).wf = true
  | [], ts, cs, hl, ht, hc => ⟨[], rfl, by simp at hl; subst hl; rfl, fun i k n h => by simp at h⟩
  | k :: ks, [], cs, hl, ht, hc => by simp at ht
  | k :: ks, t :: ts, [], hl, ht, hc => by simp at hl
  | k :: ks, t :: ts, c :: cs, hl, ht, hc => by
    simp only [List.map_cons, List.cons.injEq] at ht
    obtain ⟨ns, h1, h2, h3⟩ := flat_of_trods ks ts cs (by simpa using hl) ht.2 (fun j u hu => by
      obtain ⟨c', y, hc', hy⟩ := hc (j + 1) u (by simpa using hu)
      exact ⟨c', y, by simpa using hc', hy⟩)
    obtain ⟨c', y, hc', hy⟩ := hc 0 t (by simp)
    simp at hc'
    subst hc'
    obtain ⟨a, e, _, wa⟩ := DataW.trod_int ht.1 hy
    simp at e
    subst e
    refine ⟨a :: ns, by simp [h1], by rw [h2]; rfl, fun i k' m hk hm => ?_⟩
    cases i with
    | zero => simp at hk hm; subst hk hm; exact wa
    | succ i => exact h3 i k' m (by simpa using hk) (by simpa using hm)
theorem trods_of_array {n : Nat} {e t : TypeId} {m : Nat} {cs : List Value} {x : DataW H × List MemPlace} (he : P.underlying e = some (.array m t)) (hC : P.cellsOf t = 1) (hE : P.cellsOf e = m) (h : DataW.trod enc P w base spare held n e cs = some x) :
    cs.length = m ∧ ∃ n', ∀ (j : Nat) (u : TypeId), (List.replicate m t)[j]? = some u → ∃ c y, cs[j]? = some c ∧ DataW.trod enc P w base spare held n' u [c] = some y := by
  obtain ⟨xs, n', _, _, hlen, hxl, hg⟩ := DataW.trod_array he h
  rw [hE] at hlen
  refine ⟨hlen, n', fun j u hu => ?_⟩
  have hj : j < m := by have := (List.getElem?_eq_some_iff.1 hu).1; simpa using this
  have hut : u = t := by
    have := (List.getElem?_eq_some_iff.1 hu).2
    simpa using this.symm
  subst hut
  have h1 := hg j hj
  rw [hC, Nat.mul_one] at h1
  have hone : (cs.drop j).take 1 = [cs[j]'(by omega)] := by rw [List.drop_eq_getElem_cons (by omega)]; rfl
  rw [hone] at h1
  have hys : xs[j]? = some (xs[j]'(by omega)) := List.getElem?_eq_getElem (by omega)
  exact ⟨_, _, List.getElem?_eq_getElem (by omega), h1.trans hys⟩
theorem trods_of_struct {n : Nat} {e : TypeId} {fs : Array Field} {cs : List Value} {x : DataW H × List MemPlace} (he : P.underlying e = some (.struct fs)) (hone : oneCellFields P fs = true) (hE : P.cellsOf e = fs.size) (h : DataW.trod enc P w base spare held n e cs = some x) :
    cs.length = fs.size ∧ ∃ n', ∀ (j : Nat) (u : TypeId), (fs.toList.map (·.type))[j]? = some u → ∃ c y, cs[j]? = some c ∧ DataW.trod enc P w base spare held n' u [c] = some y := by
  obtain ⟨ys, n', _, _, hlen, hyl, hf⟩ := DataW.trod_struct he h
  rw [hE] at hlen
  refine ⟨hlen, n', fun j u hu => ?_⟩
  rw [List.getElem?_map] at hu
  obtain ⟨f, hf0, hfu⟩ := Option.map_eq_some_iff.1 hu
  have hf1 : fs[j]? = some f := by simpa using hf0
  subst hfu
  have hj : j < fs.size := (Array.getElem?_eq_some_iff.1 hf1).1
  obtain ⟨ho, hk⟩ := hone_of hone j f hf1
  have h1 := hf j f hf1
  rw [ho, hk] at h1
  have hone' : (cs.drop j).take 1 = [cs[j]'(by omega)] := by rw [List.drop_eq_getElem_cons (by omega)]; rfl
  rw [hone'] at h1
  have hys : ys[j]? = some (ys[j]'(by omega)) := List.getElem?_eq_getElem (by omega)
  exact ⟨_, _, List.getElem?_eq_getElem (by omega), h1.trans hys⟩
theorem exists_list {α : Type} (p : Nat → α → Prop) : ∀ n : Nat, (∀ i, i < n → ∃ a, p i a) → ∃ l : List α, l.length = n ∧ ∀ (i : Nat) (a : α), l[i]? = some a → p i a
  | 0, _ => ⟨[], rfl, fun i a h => by simp at h⟩
  | n + 1, h => by
    obtain ⟨l, hl, hp⟩ := exists_list p n (fun i hi => h i (by omega))
    obtain ⟨a, ha⟩ := h n (by omega)
    refine ⟨l ++ [a], by simp [hl], fun i b hb => ?_⟩
    rcases Nat.lt_or_ge i n with hi | hi
    · rw [List.getElem?_append_left (by omega)] at hb; exact hp i b hb
    · have : i = n := by have := (List.getElem?_eq_some_iff.1 hb).1; simp at this; omega
      subst this
      rw [List.getElem?_append_right (by omega), hl] at hb
      simp at hb
      subst hb; exact ha
theorem readsF_of {r : Reach} {b0 : Nat} {t e : TypeId} (ks : List IntKind) {v : Value} {d : DataW H} {p : List MemPlace} (ht : P.underlying t = some (.slice e)) (hC : P.cellsOf e = ks.length)
    (hE : ∀ (n : Nat) (cs : List Value) (x : DataW H × List MemPlace), DataW.trod enc P w base (fun _ => true) held n e cs = some x → ∃ ns : List Int, ns.length = ks.length ∧ cs = flatV ks ns ∧ ∀ (i : Nat) (k : IntKind) (n : Int), ks[i]? = some k → ns[i]? = some n → (Lit.int k n).wf = true)
    (hk : 0 < ks.length) (hv : Value.okWide P w r b0 t v) (h : DataW.Trod enc P w base (fun _ => true) held t v d p) : ∃ zs, ReadsF ks w v zs ∧ ∀ z ∈ zs, z.length = ks.length ∧ ∀ (i : Nat) (k : IntKind) (n : Int), ks[i]? = some k → z[i]? = some n → (Lit.int k n).wf = true := by
  obtain ⟨a, len, cap, rfl⟩ := okWide_slice ht hv
  obtain ⟨fuel, hf⟩ := h
  rcases open_slice ht hf with ⟨hcs, _⟩ | ⟨x, l, c, m, n, D, Pl, hcs, _, hl, hm, hmm, _, hi⟩
  · simp [Value.cells] at hcs
    obtain ⟨rfl, rfl, rfl⟩ := hcs
    exact ⟨[], ⟨none, 0, rfl, fun h => absurd rfl h⟩, fun n hn => by cases hn⟩
  · simp [Value.cells] at hcs
    obtain ⟨rfl, rfl, rfl⟩ := hcs
    simp only [if_true] at hmm
    obtain ⟨zs, hzl, hzs⟩ := exists_list (fun i (z : List Int) => (z.length = ks.length ∧ ∀ (i : Nat) (k : IntKind) (n : Int), ks[i]? = some k → z[i]? = some n → (Lit.int k n).wf = true) ∧ ∀ (j : Nat) (u : Value), (flatV ks z)[j]? = some u → w.cell? ((x.add (i * ks.length)).add j) = some u) len (fun i hil => by
      obtain ⟨cs', hc, htr⟩ := hi i (by omega)
      obtain ⟨ns, h1, h2, h3⟩ := hE _ _ _ htr
      obtain ⟨_, hcl, hat⟩ := World.cells?_some hc
      rw [hC] at hcl hat
      refine ⟨ns, ⟨h1, h3⟩, fun j u hu => ?_⟩
      have hj : j < ks.length := by have := (List.getElem?_eq_some_iff.1 hu).1; rw [← h2, hcl] at this; exact this
      rw [hat j hj, h2]; exact hu)
    refine ⟨zs, ⟨some x, cap, by rw [hzl], fun hne => ?_⟩, fun z hz => by
      obtain ⟨i, hi', he⟩ := List.getElem_of_mem hz
      exact (hzs i z (by rw [List.getElem?_eq_getElem hi', he])).1⟩
    have hl0 : 0 < len := by
      rcases Nat.eq_zero_or_pos len with h0 | h0
      · exact absurd (List.length_eq_zero_iff.1 (hzl.trans h0)) hne
      · exact h0
    obtain ⟨b, off, spot⟩ := x
    have hz0 : zs[0]? = some (zs[0]'(by omega)) := List.getElem?_eq_getElem (by omega)
    have hc0 := hzs 0 _ hz0
    have hl1 := flatV_len ks _ hc0.1.1
    have hu0 : (flatV ks (zs[0]'(by omega)))[0]? = some ((flatV ks (zs[0]'(by omega)))[0]'(by rw [hl1]; exact hk)) := List.getElem?_eq_getElem _
    have hcc := hc0.2 0 _ hu0
    have hspot : spot = none := by simpa [Addr.add] using World.cell?_spot hcc
    subst hspot
    have hcell : ∀ (i : Nat) (z : List Int), zs[i]? = some z → ∀ (j : Nat) (u : Value), (flatV ks z)[j]? = some u → w.cell? ⟨b, off + i * ks.length + j, none⟩ = some u := fun i z hz j u hu => by
      have := (hzs i z hz).2 j u hu
      rwa [add_plain, add_plain] at this
    exact ⟨b, off, rfl, World.block_lt_of_cell? _ _ (hcell 0 _ hz0 0 _ hu0), hcell⟩
end
end Go.Proofs.Ytkpagkopfdblgaa
