/- append of ints onto a slice of the call's own, whatever the source is; flags. -/
import Derived.Test.YtaecapjicphdkaaGreatSlice
import Derived.Maps.AppendAt
import Derived.Laws.AppendOwnNone
namespace Go.Proofs.YtaecapjicphdkaaGreat
set_option linter.unusedVariables false
set_option linter.unusedSimpArgs false
open Go Go.RowKit
set_option maxRecDepth 100000

/-- A slice of ints to be appended: nil, or cells that lie there. -/
def Src (w : World) (y : Value) (ys : List Int) : Prop :=
  (y = .slice none 0 0 ∧ ys = []) ∨ ∃ ad c, y = .slice (some ad) ys.length c ∧ ∀ (j : Nat) z, ys[j]? = some z → w.cell? (ad.add j) = some (.int .i64 z)
theorem addr_add (b o j : Nat) : (⟨b, o, none⟩ : Addr).add j = ⟨b, o + j, none⟩ := by unfold Addr.add; split <;> simp_all
section
variable {B : Nat} {w : World} {v : Value} {xs ys : List Int}
theorem Src.nil (w : World) : Src w (.slice none 0 0) [] := .inl ⟨rfl, rfl⟩
theorem Row.capLe {a : Option Addr} {n cap : Nat} (h : Row B 3 w (.slice a n cap) (ivals xs)) : n ≤ cap := by
  obtain ⟨hl, ⟨hv, hn⟩ | ⟨g, cap', cur, hv, hB, hg, h1, h2, h3, h4⟩⟩ := h
  · cases hv; exact Nat.le_refl _
  · cases hv; exact h1
theorem Row.src (h : Row B 3 w v (ivals xs)) : Src w v xs := by
  obtain ⟨hl, ⟨rfl, hn⟩ | ⟨g, cap, cur, rfl, hB, hg, h1, h2, h3, h4⟩⟩ := h
  · exact .inl ⟨rfl, List.length_eq_zero_iff.1 (by simpa using hn)⟩
  · refine .inr ⟨⟨g, 0, none⟩, cap, by simp, fun j z hj => ?_⟩
    have hj2 : j < xs.length := (List.getElem?_eq_some_iff.1 hj).1
    have hk : (ivals xs)[j]? = some (.int .i64 z) := by simp [hj]
    rw [← h4, List.getElem?_take_of_lt (by simpa using hj2)] at hk
    rw [addr_add, Nat.zero_add]
    simp [World.cell?, hg]
    simpa using hk
theorem Has.src {b : Nat} {z : Int} (h : Has w b #[.int .i64 z] 3) (c : Nat) : Src w (.slice (some ⟨b, 0, none⟩) 1 c) [z] :=
  .inr ⟨⟨b, 0, none⟩, c, rfl, fun j y hj => news_one h j _ (by cases j with | zero => simp at hj ⊢; exact hj | succ j => simp at hj)⟩
theorem wpList_append_ints {ops : Array Oper} {rest : List Oper} {o : Oper} {a : Act} {Q : Exit → Act → World → Prop} (hgd : o.guard = none) (s x : Operand)
    (ho : o.op = .call { callee := .builtin .append, args := #[s, x], argTypes := #[49, 49] })
    (y : Value) (hs : a.eval s = v) (hx : a.eval x = y) (hown : Row B 3 w v (ivals xs)) (hsrc : Src w y ys) (hlen : xs.length + ys.length ≤ 1000000) (hB : B ≤ w.heap.size)
    (h : ∀ v' w', Row B 3 w' v' (ivals (xs ++ ys)) → Upd (ownB v) w w' → (∀ z ∈ ownB v', z ∈ ownB v ∨ z = w.heap.size) → wpList Tryz.prog ops Q rest (a.put o.dst v') w') : wpList Tryz.prog ops Q (o :: rest) a w := by
  obtain ⟨i0, hi, hz0, hz1, hz2⟩ := info_parts info_int
  rcases hsrc with ⟨rfl, rfl⟩ | ⟨ad, c, rfl, hc⟩
  · refine wpList_append_own_none hgd s x 49 ho B 3 i0 1 Tryz.underlying49 hi v _ _ hs hown hx ?_
    exact h v w (by rw [List.append_nil]; exact hown) (Upd.refl _ _) (fun z hz => .inl hz)
  · refine wpList_append_own_at w hgd s x 49 ho B 3 i0 _ 1 8 Tryz.underlying49 hi hz0 hz1 hz2 rfl (by decide) v _ _ hs hown ad ys.length c (ivals ys) hx (by simp) (fun j u hj => ?_) (ivals_one ys) (by simp only [ivals, List.length_map]; unfold maxLen; omega) (by simp only [ivals, List.length_map]; omega) hB ?_
    · have hj2 : j < ys.length := by have := (List.getElem?_eq_some_iff.1 hj).1; simpa using this
      simp only [ivals, List.getElem?_map, List.getElem?_eq_getElem hj2, Option.map_some, Option.some.injEq] at hj
      rw [hc j ys[j] (List.getElem?_eq_getElem hj2), hj]
    · intro v' w' h1 h2 _ h4
      refine h v' w' ?_ (Upd.grown h2) (fun z hz => ?_)
      · unfold Row
        have e : ivals (xs ++ ys) = ivals xs ++ ivals ys := by simp [ivals]
        rw [e, List.length_append, show (ivals ys).length = ys.length by simp]
        exact h1
      · rcases h4 with h4 | h4
        · exact .inl (by unfold ownB at hz ⊢; rw [h4] at hz; exact hz)
        · right; unfold ownB at hz; rw [h4] at hz; simpa using hz
/-- The same under a guard that is met. -/
theorem wpList_append_intsG {ops : Array Oper} {rest : List Oper} {o : Oper} {a : Act} {Q : Exit → Act → World → Prop} (hgd : Region.wanted o (yielded ops a.tmps) = true) (s x : Operand)
    (ho : o.op = .call { callee := .builtin .append, args := #[s, x], argTypes := #[49, 49] })
    (y : Value) (hs : a.eval s = v) (hx : a.eval x = y) (hown : Row B 3 w v (ivals xs)) (hsrc : Src w y ys) (hlen : xs.length + ys.length ≤ 1000000) (hB : B ≤ w.heap.size)
    (h : ∀ v' w', Row B 3 w' v' (ivals (xs ++ ys)) → Upd (ownB v) w w' → (∀ z ∈ ownB v', z ∈ ownB v ∨ z = w.heap.size) → wpList Tryz.prog ops Q rest (a.put o.dst v') w') : wpList Tryz.prog ops Q (o :: rest) a w := by
  obtain ⟨i0, hi, hz0, hz1, hz2⟩ := info_parts info_int
  refine wpList_step fun K hK => ?_
  rw [if_pos hgd]
  rcases hsrc with ⟨rfl, rfl⟩ | ⟨ad, c, rfl, hc⟩
  · have hrun := run_append_owned_none (P := Tryz.prog) (w := w) B 49 o.type 3 i0 1 Tryz.underlying49 hi v _ _ hown
    unfold Oper.wp
    simp [execOp, ho, resolve, invoke, builtin, hs, hx, hrun, Result.andThen]
    exact hK _ _ (h v w (by rw [List.append_nil]; exact hown) (Upd.refl _ _) (fun z hz => .inl hz))
  · have hnews : ∀ (j : Nat) u, (ivals ys)[j]? = some u → w.cell? (ad.add j) = some u := fun j u hj => by
      have hj2 : j < ys.length := by have := (List.getElem?_eq_some_iff.1 hj).1; simpa using this
      simp only [ivals, List.getElem?_map, List.getElem?_eq_getElem hj2, Option.map_some, Option.some.injEq] at hj
      rw [hc j ys[j] (List.getElem?_eq_getElem hj2), hj]
    obtain ⟨v', w', hr, h1, h2, _, h4⟩ := run_append_own_at (P := Tryz.prog) w B 49 o.type 3 i0 _ 1 8 Tryz.underlying49 hi hz0 hz1 hz2 rfl (by decide) v _ _ hown ad ys.length c (ivals ys) (by simp) hnews (ivals_one ys) (by simp only [ivals, List.length_map]; unfold maxLen; omega) (by simp only [ivals, List.length_map]; omega) hB
    unfold Oper.wp execOp
    simp only [ho, resolve, invoke, builtin, Sem.run_bind, Sem.run_pure, Result.andThen_ok, List.map_toArray, List.map_cons, List.map_nil, hs, hx, hr]
    refine hK _ _ (h v' w' ?_ (Upd.grown h2) (fun z hz => ?_))
    · unfold Row
      have e : ivals (xs ++ ys) = ivals xs ++ ivals ys := by simp [ivals]
      rw [e, List.length_append, show (ivals ys).length = ys.length by simp]
      exact h1
    · rcases h4 with h4 | h4
      · exact .inl (by unfold ownB at hz ⊢; rw [h4] at hz; exact hz)
      · right; unfold ownB at hz; rw [h4] at hz; simpa using hz
end
/-- Which of 0 to n less 1 stand in a list. -/
def flags (n : Nat) (L : List Int) : Array Value := ((List.range n).map fun (z : Nat) => Value.bool (decide ((z : Int) ∈ L))).toArray
theorem flags_at {n z : Nat} {L : List Int} (h : z < n) : (flags n L)[z]? = some (.bool (decide ((z : Int) ∈ L))) := by
  simp [flags, List.getElem?_range h]
theorem flags_nil (n : Nat) : flags n [] = Array.replicate n (.bool false) := by
  unfold flags
  simp only [List.not_mem_nil, decide_false]
  refine Array.ext (by simp) fun i h1 h2 => by simp
theorem flags_set {n z : Nat} {L : List Int} (h : z < n) : (flags n L).setIfInBounds z (.bool true) = flags n ((z : Int) :: L) := by
  unfold flags
  refine Array.ext (by simp) fun i h1 h2 => ?_
  simp only [Array.size_setIfInBounds, List.size_toArray, List.length_map, List.length_range] at h1
  simp only [Array.getElem_setIfInBounds, List.getElem_toArray, List.getElem_map, List.getElem_range, List.mem_cons]
  by_cases hiz : z = i
  · subst hiz; simp
  · simp [hiz]
    have : ¬ ((i : Int) = (z : Int)) := by omega
    simp [this]
theorem info_bool : (Tryz.prog.info? 4).map (fun i => (i.zero, i.size, i.bytes)) = some (some (.bool false), 1, 1) := by kernel_rfl
/-- A slice of ints that lies somewhere in a block of ints. -/
def CutI (w : World) (v : Value) (L : List Int) : Prop :=
  ∃ a cap, v = .slice a L.length cap ∧ L.length ≤ cap ∧ (L ≠ [] → ∃ g off cur, a = some ⟨g, off, none⟩ ∧ Has w g cur 3 ∧ ∀ (i : Nat) z, L[i]? = some z → cur[off + i]? = some (.int .i64 z))
section
variable {w w' : World} {v : Value} {L : List Int} {B : Nat} {S : List Nat}
theorem Row.cut (h : Row B 3 w v (ivals L)) : CutI w v L := by
  obtain ⟨hl, ⟨rfl, hn⟩ | ⟨g, cap, cur, rfl, hB, hg, h1, h2, h3, h4⟩⟩ := h
  · have e : L = [] := List.length_eq_zero_iff.1 (by simpa using hn)
    subst e
    exact ⟨none, 0, rfl, Nat.le_refl _, fun h => absurd rfl h⟩
  · refine ⟨some ⟨g, 0, none⟩, cap, by simp, by simpa using h1, fun _ => ⟨g, 0, cur, rfl, hg, fun i z hi => ?_⟩⟩
    have hi2 : i < L.length := (List.getElem?_eq_some_iff.1 hi).1
    have hk : (ivals L)[i]? = some (.int .i64 z) := by simp [hi]
    rw [← h4, List.getElem?_take_of_lt (by simpa using hi2)] at hk
    rw [Nat.zero_add]
    simpa using hk
theorem CutI.reads (h : CutI w v L) : Reads .i64 w v L := by
  obtain ⟨a, cap, rfl, _, h⟩ := h
  refine ⟨a, cap, rfl, fun hz => ?_⟩
  obtain ⟨g, off, cur, rfl, hg, hc⟩ := h hz
  exact ⟨g, off, rfl, hg.lt, fun i z hi => (hg.cell _).trans (hc i z hi)⟩
theorem CutI.upd (h : CutI w v L) (hu : Upd S w w') (hS : ∀ g cur, Has w g cur 3 → g ∉ S) : CutI w' v L := by
  obtain ⟨a, cap, rfl, hc, h⟩ := h
  refine ⟨a, cap, rfl, hc, fun hz => ?_⟩
  obtain ⟨g, off, cur, rfl, hg, hc⟩ := h hz
  exact ⟨g, off, cur, rfl, hg.upd hu (hS g cur hg), hc⟩
theorem CutI.keeps (h : CutI w v L) (hk : Keeps w w') : CutI w' v L := h.upd (Upd.of_keeps (S := []) hk) (fun _ _ _ => by simp)
theorem CutI.take {a : Option Addr} {cap : Nat} (h : CutI w (.slice a L.length cap) L) {k : Nat} (hk : k ≤ L.length) : CutI w (.slice a k cap) (L.take k) := by
  obtain ⟨a', cap', hv, hc, h⟩ := h
  cases hv
  refine ⟨a, cap, by simp [Nat.min_eq_left hk], by simp; omega, fun hz => ?_⟩
  obtain ⟨g, off, cur, ha, hg, hcc⟩ := h (by rintro rfl; simp at hz)
  refine ⟨g, off, cur, ha, hg, fun i z hi => ?_⟩
  rw [List.getElem?_take] at hi
  split at hi
  · exact hcc i z hi
  · cases hi
theorem CutI.drop {g off cap : Nat} (h : CutI w (.slice (some ⟨g, off, none⟩) L.length cap) L) {k : Nat} (hk : k ≤ L.length) (a : Option Addr) (ha : k < L.length → a = some ⟨g, off + k, none⟩) : CutI w (.slice a (L.length - k) (cap - k)) (L.drop k) := by
  obtain ⟨a', cap', hv, hc, h⟩ := h
  cases hv
  refine ⟨a, cap - k, by simp, by simp; omega, fun hz => ?_⟩
  have hk2 : k < L.length := by
    rcases Nat.lt_or_ge k L.length with h1 | h1
    · exact h1
    · exact absurd (List.drop_eq_nil_of_le h1) hz
  obtain ⟨g', off', cur, ha', hg, hcc⟩ := h (by rintro rfl; simp at hk2)
  cases ha'
  refine ⟨g, off + k, cur, ha hk2, hg, fun i z hi => ?_⟩
  rw [List.getElem?_drop] at hi
  rw [Nat.add_assoc]
  exact hcc _ z hi
theorem CutI.nil (w : World) (a : Option Addr) {n : Nat} (c : Nat) (h : n = 0) : CutI w (.slice a n c) [] := by
  subst h
  exact ⟨a, c, rfl, Nat.zero_le _, fun h => absurd rfl h⟩
theorem Row.one {b : Nat} {z : Int} (h : Has w b #[.int .i64 z] 3) (hB : B ≤ b) : Row B 3 w (.slice (some ⟨b, 0, none⟩) 1 1) (ivals [z]) :=
  ⟨rfl, .inr ⟨b, 1, #[.int .i64 z], rfl, hB, h, Nat.le_refl _, by unfold maxLen; decide, rfl, rfl⟩⟩
theorem reads_one {b : Nat} {z : Int} (h : Has w b #[.int .i64 z] 3) (c : Nat) : Reads .i64 w (.slice (some ⟨b, 0, none⟩) 1 c) [z] :=
  ⟨some ⟨b, 0, none⟩, c, rfl, fun _ => ⟨b, 0, rfl, h.lt, fun i y hi => by
    cases i with
    | zero => simp at hi; subst hi; exact h.cell 0
    | succ i => simp at hi⟩⟩
theorem reads_two {b : Nat} {y z : Int} (h : Has w b #[.int .i64 y, .int .i64 z] 3) (c : Nat) : Reads .i64 w (.slice (some ⟨b, 0, none⟩) 2 c) [y, z] :=
  ⟨some ⟨b, 0, none⟩, c, rfl, fun _ => ⟨b, 0, rfl, h.lt, fun i u hi => by
    match i with
    | 0 => simp at hi; subst hi; exact h.cell 0
    | 1 => simp at hi; subst hi; exact h.cell 1
    | i + 2 => simp at hi⟩⟩
end
end Go.Proofs.YtaecapjicphdkaaGreat
