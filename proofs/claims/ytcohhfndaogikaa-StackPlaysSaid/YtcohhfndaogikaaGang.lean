/- Workers, each with blocks of his own, pairwise apart. -/
import Derived.Test.YtcohhfndaogikaaHeap
namespace Go.Proofs.Ytcohhfndaogikaa
set_option linter.unusedVariables false
set_option linter.unusedSimpArgs false
open Go Go.RowKit
set_option maxRecDepth 100000

theorem foot_mem {F : List (List Nat)} {i : Nat} {f : List Nat} (h : F[i]? = some f) {y : Nat} (hy : y ∈ f) : y ∈ F.flatten :=
  List.mem_flatten.2 ⟨f, List.mem_of_getElem? h, hy⟩
theorem foot_apart : ∀ {F : List (List Nat)} {i j : Nat} {f f' : List Nat}, F.flatten.Nodup → F[i]? = some f → F[j]? = some f' → j ≠ i → ∀ y ∈ f', y ∉ f
  | [], i, j, f, f', _, h, _, _ => by simp at h
  | x :: F, 0, 0, f, f', _, _, _, hn => absurd rfl hn
  | x :: F, 0, j + 1, f, f', hd, h, h', _ => fun y hy hy2 => by
    simp at h; subst h
    rw [List.flatten_cons, List.nodup_append] at hd
    exact hd.2.2 y hy2 y (foot_mem (by simpa using h') hy) rfl
  | x :: F, i + 1, 0, f, f', hd, h, h', _ => fun y hy hy2 => by
    simp at h'; subst h'
    rw [List.flatten_cons, List.nodup_append] at hd
    exact hd.2.2 y hy y (foot_mem (by simpa using h) hy2) rfl
  | x :: F, i + 1, j + 1, f, f', hd, h, h', hn => by
    rw [List.flatten_cons, List.nodup_append] at hd
    exact foot_apart hd.2.1 (by simpa using h) (by simpa using h') (by omega)
theorem foot_set_mem : ∀ {F : List (List Nat)} {i : Nat} {f' : List Nat} {y : Nat}, y ∈ (F.set i f').flatten → y ∈ f' ∨ y ∈ F.flatten := by
  intro F i f' y h
  obtain ⟨g, hg, hy⟩ := List.mem_flatten.1 h
  rcases List.mem_or_eq_of_mem_set hg with hg | rfl
  · exact .inr (List.mem_flatten.2 ⟨g, hg, hy⟩)
  · exact .inl hy
theorem foot_set : ∀ {F : List (List Nat)} {i : Nat} {f f' : List Nat} {s : Nat}, F.flatten.Nodup → (∀ y ∈ F.flatten, y < s) → F[i]? = some f → f'.Nodup → (∀ y ∈ f', y ∈ f ∨ s ≤ y) → (F.set i f').flatten.Nodup
  | [], i, f, f', s, _, _, h, _, _ => by simp at h
  | x :: F, 0, f, f', s, hd, hs, h, hn, hf => by
    simp at h; subst h
    rw [List.flatten_cons, List.nodup_append] at hd
    rw [List.set_cons_zero, List.flatten_cons, List.nodup_append]
    refine ⟨hn, hd.2.1, fun a ha b hb e => ?_⟩
    subst e
    rcases hf a ha with h | h
    · exact hd.2.2 a h a hb rfl
    · have := hs a (by rw [List.flatten_cons]; exact List.mem_append_right _ hb); omega
  | x :: F, i + 1, f, f', s, hd, hs, h, hn, hf => by
    rw [List.flatten_cons, List.nodup_append] at hd
    rw [List.set_cons_succ, List.flatten_cons, List.nodup_append]
    have h2 : F[i]? = some f := by simpa using h
    refine ⟨hd.1, foot_set hd.2.1 (fun y hy => hs y (by rw [List.flatten_cons]; exact List.mem_append_right _ hy)) h2 hn hf, fun a ha b hb e => ?_⟩
    subst e
    rcases foot_set_mem hb with hb | hb
    · rcases hf a hb with h3 | h3
      · exact hd.2.2 a ha a (foot_mem h2 h3) rfl
      · have := hs a (by rw [List.flatten_cons]; exact List.mem_append_left _ ha); omega
    · exact hd.2.2 a ha a hb rfl
/-- Workers, each with a place and a state, his blocks apart from the others'. -/
structure Gang {α β : Type} (foot : α → List Nat) (R : World → α → β → Prop) (w : World) (B : Nat) (cs : List α) (ws : List β) : Prop where
  rep : ∀ (i : Nat) c k, cs[i]? = some c → ws[i]? = some k → R w c k
  nd : ((cs.map foot).flatten).Nodup
  own : ∀ y ∈ (cs.map foot).flatten, B ≤ y ∧ y < w.heap.size
  clen : cs.length = 4
  wlen : ws.length = 4
/-- What a place says holds as long as its blocks stand. -/
def Frames {α β : Type} (foot : α → List Nat) (R : World → α → β → Prop) : Prop := ∀ {w w' : World} {T : List Nat} {c : α} {k : β}, R w c k → Upd T w w' → (∀ y ∈ foot c, y ∉ T) → R w' c k
section
variable {α β : Type} {foot : α → List Nat} {R : World → α → β → Prop} {w w' : World} {B : Nat} {T : List Nat} {cs : List α} {ws : List β}
theorem Gang.upd (h : Gang foot R w B cs ws) (hR : Frames foot R) (hu : Upd T w w') (hT : ∀ y ∈ (cs.map foot).flatten, y ∉ T) : Gang foot R w' B cs ws := by
  refine ⟨fun i c k hc hk => hR (h.rep i c k hc hk) hu (fun y hy => hT y (foot_mem (F := cs.map foot) (i := i) (f := foot c) (by simp [hc]) hy)), h.nd, fun y hy => ?_, h.clen, h.wlen⟩
  have := h.own y hy
  have := hu.size
  omega
theorem Gang.keeps (h : Gang foot R w B cs ws) (hR : Frames foot R) (hk : Keeps w w') : Gang foot R w' B cs ws := h.upd hR (Upd.of_keeps (S := []) hk) (fun _ _ => by simp)
/-- One of them turns. -/
theorem Gang.turn (h : Gang foot R w B cs ws) (hR : Frames foot R) {i : Nat} {c c' : α} {k k' : β} (hc : cs[i]? = some c) (hk : ws[i]? = some k) (hu : Upd T w w')
    (hT : ∀ y ∈ (cs.map foot).flatten, y ∉ foot c → y ∉ T) (hr : R w' c' k') (hn : (foot c').Nodup) (hf : ∀ y ∈ foot c', (y ∈ foot c ∨ w.heap.size ≤ y) ∧ y < w'.heap.size) (hB : B ≤ w.heap.size) : Gang foot R w' B (cs.set i c') (ws.set i k') := by
  have hci : (cs.map foot)[i]? = some (foot c) := by simp [hc]
  have hl1 := (List.getElem?_eq_some_iff.1 hc).1
  have hl2 := (List.getElem?_eq_some_iff.1 hk).1
  have em : (cs.set i c').map foot = (cs.map foot).set i (foot c') := by rw [List.map_set]
  refine ⟨fun j d q hd hq => ?_, ?_, fun y hy => ?_, by simp [h.clen], by simp [h.wlen]⟩
  · by_cases hji : j = i
    · subst hji
      rw [List.getElem?_set_self hl1] at hd
      rw [List.getElem?_set_self hl2] at hq
      cases hd; cases hq
      exact hr
    · rw [List.getElem?_set_ne (fun e => hji e.symm)] at hd hq
      have hdj : (cs.map foot)[j]? = some (foot d) := by simp [hd]
      exact hR (h.rep j d q hd hq) hu (fun y hy => hT y (foot_mem hdj hy) (foot_apart h.nd hci hdj hji y hy))
  · rw [em]
    exact foot_set h.nd (fun y hy => (h.own y hy).2) hci hn (fun y hy => (hf y hy).1)
  · rw [em] at hy
    have hs := hu.size
    rcases foot_set_mem hy with hy | hy
    · obtain ⟨h1 | h1, h2⟩ := hf y hy
      · exact ⟨(h.own y (foot_mem hci h1)).1, h2⟩
      · exact ⟨by omega, h2⟩
    · have := h.own y hy; omega
/-- The same world; a place that has no more blocks than it had. -/
theorem Gang.less (h : Gang foot R w B cs ws) (hR : Frames foot R) {i : Nat} {c c' : α} {k k' : β} (hc : cs[i]? = some c) (hk : ws[i]? = some k) (hr : R w c' k') (hs : List.Sublist (foot c') (foot c)) (hB : B ≤ w.heap.size) : Gang foot R w B (cs.set i c') (ws.set i k') := by
  have hci : (cs.map foot)[i]? = some (foot c) := by simp [hc]
  have hin : foot c ∈ cs.map foot := List.mem_of_getElem? hci
  have hnd : (foot c).Nodup := (List.pairwise_flatten.1 h.nd).1 _ hin
  exact h.turn hR hc hk (Upd.refl [] w) (fun _ _ _ => by simp) hr (hnd.sublist hs) (fun y hy => ⟨.inl (hs.subset hy), (h.own y (foot_mem hci (hs.subset hy))).2⟩) hB
theorem Gang.foot_nd (h : Gang foot R w B cs ws) {i : Nat} {c : α} (hc : cs[i]? = some c) : (foot c).Nodup :=
  (List.pairwise_flatten.1 h.nd).1 _ (List.mem_of_getElem? (show (cs.map foot)[i]? = some (foot c) by simp [hc]))
theorem Gang.foot_own (h : Gang foot R w B cs ws) {i : Nat} {c : α} (hc : cs[i]? = some c) : ∀ y ∈ foot c, B ≤ y ∧ y < w.heap.size := fun y hy =>
  h.own y (foot_mem (F := cs.map foot) (i := i) (by simp [hc]) hy)
/-- A block of another type is nobody's. -/
theorem Gang.out (h : Gang foot R w B cs ws) {b : Nat} (hb : ∀ c k, R w c k → b ∉ foot c) : b ∉ (cs.map foot).flatten := by
  intro hm
  obtain ⟨f, hf, hy⟩ := List.mem_flatten.1 hm
  obtain ⟨c, hc, rfl⟩ := List.mem_map.1 hf
  obtain ⟨i, hi, e⟩ := List.mem_iff_getElem.1 hc
  have h1 : cs[i]? = some c := by rw [List.getElem?_eq_getElem hi, e]
  have hi2 : i < ws.length := by rw [h.wlen, ← h.clen]; exact hi
  exact hb c ws[i] (h.rep i c _ h1 (List.getElem?_eq_getElem hi2)) hy
end
end Go.Proofs.Ytcohhfndaogikaa
