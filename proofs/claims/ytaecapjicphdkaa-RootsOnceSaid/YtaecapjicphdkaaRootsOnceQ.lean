/- Several Ends in their blocks. -/
import Derived.Test.YtaecapjicphdkaaRootsOnceP
import Derived.Test.YtaecapjicphdkaaRow
import Derived.LoopTactic
namespace Go.Proofs.Ytaecapjicphdkaa
set_option linter.unusedVariables false
set_option linter.unusedSimpArgs false
open Go Go.RowKit
set_option maxRecDepth 100000
set_option maxHeartbeats 8000000

theorem info_pend : (Try.prog.info? 35).map (fun i => (i.zero, i.size, i.bytes)) = some (some (.pointer none), 1, 8) := by kernel_rfl
/-- So many machines, each in its block. -/
structure EMachs (B : Nat) (w : World) (E : Nat) (gs : List Nat) (ss : List En) : Prop where
  len : gs.length = ss.length
  nodup : gs.Nodup
  ge : ∀ g ∈ gs, B ≤ g
  rep : ∀ (i : Nat) g s, gs[i]? = some g → ss[i]? = some s → EnRep w g E 0 1 s
theorem EMachs.upd {B : Nat} {w w' : World} {E : Nat} {gs : List Nat} {ss : List En} {S : List Nat} (h : EMachs B w E gs ss) (hu : Upd S w w') (hS : ∀ g ∈ gs, g ∉ S) : EMachs B w' E gs ss :=
  ⟨h.len, h.nodup, h.ge, fun i g s hg hs => Has.upd (h.rep i g s hg hs) hu (hS g (List.mem_of_getElem? hg))⟩
theorem EMachs.keeps {B : Nat} {w w' : World} {E : Nat} {gs : List Nat} {ss : List En} (h : EMachs B w E gs ss) (k : Keeps w w') : EMachs B w' E gs ss := h.upd (Upd.of_keeps (S := []) k) (by simp)
theorem EMachs.lt {B : Nat} {w : World} {E : Nat} {gs : List Nat} {ss : List En} (h : EMachs B w E gs ss) : ∀ g ∈ gs, g < w.heap.size := by
  intro g hg
  obtain ⟨i, hi, e⟩ := List.mem_iff_getElem.1 hg
  have hs : i < ss.length := by rw [← h.len]; exact hi
  exact Has.lt (h.rep i g ss[i] (by rw [List.getElem?_eq_getElem hi, e]) (List.getElem?_eq_getElem hs))
theorem EMachs.snoc {B : Nat} {w : World} {E : Nat} {gs : List Nat} {ss : List En} {g : Nat} {s : En} (h : EMachs B w E gs ss) (hg : EnRep w g E 0 1 s) (hn : g ∉ gs) (hB : B ≤ g) : EMachs B w E (gs ++ [g]) (ss ++ [s]) := by
  refine ⟨by simp [h.len], ?_, ?_, ?_⟩
  · rw [List.nodup_append]
    exact ⟨h.nodup, by simp, fun a ha b hb => by simp at hb; subst hb; rintro rfl; exact hn ha⟩
  · intro x hx
    rcases List.mem_append.1 hx with hx | hx
    · exact h.ge x hx
    · simp at hx; subst hx; exact hB
  · intro i x t hx ht
    rcases Nat.lt_or_ge i gs.length with hi | hi
    · rw [List.getElem?_append_left hi] at hx
      rw [List.getElem?_append_left (by rw [← h.len]; exact hi)] at ht
      exact h.rep i x t hx ht
    · rw [List.getElem?_append_right hi] at hx
      rw [List.getElem?_append_right (by rw [← h.len]; exact hi)] at ht
      rw [← h.len] at ht
      cases hk : i - gs.length with
      | zero => rw [hk] at hx ht; simp at hx ht; subst hx; subst ht; exact hg
      | succ k => rw [hk] at hx; simp at hx
theorem nodup_injE {gs : List Nat} (h : gs.Nodup) {i j g : Nat} (hi : gs[i]? = some g) (hj : gs[j]? = some g) : i = j := by
  obtain ⟨h1, e1⟩ := List.getElem?_eq_some_iff.1 hi
  obtain ⟨h2, e2⟩ := List.getElem?_eq_some_iff.1 hj
  rcases Nat.lt_trichotomy i j with hlt | heq | hlt
  · exact absurd (e1.trans e2.symm) (List.pairwise_iff_getElem.1 h i j h1 h2 hlt)
  · exact heq
  · exact absurd (e2.trans e1.symm) (List.pairwise_iff_getElem.1 h j i h2 h1 hlt)
/-- One goes on. -/
theorem EMachs.step {B : Nat} {w : World} {R S m b : Nat} {gs : List Nat} {ss : List En} {l : List Int} {cc : Int} {x : Acc} {i g : Nat} {s : En} (h : EMachs B w R gs ss) (hR : Has w R (rootsOf m 1 1 8 (2 : Nat) 0 1 S) 74) (M : Mem w m b 17 l cc x) (hlt : 4 < l.length) (hw : ∀ v ∈ l, 0 ≤ v ∧ v < 18446744073709551616)
    (hg : gs[i]? = some g) (hs : ss[i]? = some s) (H : EnOk s) (hcc : cc < 4611686018427387903) :
    Calls Try.prog 9 #[.pointer (some ⟨g, 0, none⟩)] w fun e w' => e = .returned (.bool (decide (s.ph < 2))) ∧ Upd [g, m, b] w w' ∧
      EMachs B w' R gs (ss.set i (enStep 4 1 l s)) ∧ Has w' R (rootsOf m 1 1 8 (2 : Nat) 0 1 S) 74 ∧ ∃ x', Mem w' m b 17 (enMem 4 l s) (cc + enCount s) x' := by
  have hr := h.rep i g s hg hs
  have ngE : R ≠ g := (Has.ne hr hR (by decide)).symm
  have ngm : R ≠ m := hR.ne M.hg (by decide)
  have ngb : R ≠ b := hR.ne M.hb (by decide)
  have hq : crootI 1 1 8 (2 : Nat) 0 1 0 = ((4 : Nat) : Int) := by decide
  refine (edStep_c hr hR M hq hlt hw H hcc).mono ?_
  rintro e w' ⟨rfl, hu, hA, x', M'⟩
  refine ⟨rfl, hu, ⟨by simp [h.len], h.nodup, h.ge, fun j y t hy ht => ?_⟩, hR.upd hu (by simp; exact ⟨ngE, ngm, ngb⟩), x', M'⟩
  by_cases hij : j = i
  · subst hij
    rw [hg] at hy; cases hy
    have hj := (List.getElem?_eq_some_iff.1 hs).1
    rw [List.getElem?_set_self hj] at ht; cases ht
    exact hA
  · rw [List.getElem?_set_ne (fun e => hij e.symm)] at ht
    have hrj := h.rep j y t hy ht
    have hne : y ≠ g := by
      rintro rfl
      exact hij (nodup_injE h.nodup hy hg)
    have n2 := Has.ne hrj M.hg (by decide)
    have n3 := Has.ne hrj M.hb (by decide)
    exact Has.upd hrj hu (by simp; exact ⟨hne, n2, n3⟩)
theorem EMachs.nots {B N : Nat} {w : World} {E m b : Nat} {gs : List Nat} {ss : List En} {l : List Int} {cc : Int} {x : Acc} (h : EMachs B w E gs ss) (M : Mem w m b N l cc x) : ∀ g ∈ gs, g ≠ m ∧ g ≠ b := by
  intro g hg
  obtain ⟨i, hi, e⟩ := List.mem_iff_getElem.1 hg
  have hs : i < ss.length := by rw [← h.len]; exact hi
  have hr := h.rep i g ss[i] (by rw [List.getElem?_eq_getElem hi, e]) (List.getElem?_eq_getElem hs)
  exact ⟨Has.ne hr M.hg (by decide), Has.ne hr M.hb (by decide)⟩
theorem EMachs.own {B B' : Nat} {w : World} {E n : Nat} {gs : List Nat} {ss : List En} {v : Value} {xs : List Value} (h : EMachs B w E gs ss) (ho : w.ownsRow B' 35 1 v n xs) : ∀ g ∈ gs, g ∉ ownB v := by
  intro g hg hx
  obtain ⟨i, hi, e⟩ := List.mem_iff_getElem.1 hg
  have hs : i < ss.length := by rw [← h.len]; exact hi
  exact own_ne ho (h.rep i g ss[i] (by rw [List.getElem?_eq_getElem hi, e]) (List.getElem?_eq_getElem hs)) (by decide) g hx rfl
abbrev en0 : En := ⟨0, 0, 0, 0, -1, 0⟩
/-- All that stands while they go on. -/
structure OnceAt (w wr : World) (m b R S rb cap k : Nat) (gs : List Nat) (Lb : List Int) (cls e : Int) (ss : List En) : Prop where
  glen : gs.length = k
  row : Row w.heap.size 35 wr (.slice (some ⟨rb, 0, none⟩) k cap) (gs.map ptr)
  machs : EMachs w.heap.size wr R gs ss
  hR : Has wr R (rootsOf m 1 1 8 (2 : Nat) 0 1 S) 74
  mem : ∃ x, Mem wr m b 17 (emem Lb cls e) (5 + sumE ss) x
  wins : EWins cls e ss
  keeps : Keeps w wr
  hm : w.heap.size ≤ m
  hb : w.heap.size ≤ b
  k5 : k ≤ 5
  ok : StOk 1 6 2 17 Lb
  c0 : 0 ≤ cls
  c3 : cls ≤ 3
section
variable {w wr : World} {m b R S rb cap k : Nat} {gs : List Nat} {Lb : List Int} {cls e : Int} {ss : List En}
theorem OnceAt.cell (h : OnceAt w wr m b R S rb cap k gs Lb cls e ss) {i g : Nat} (hg : gs[i]? = some g) : wr.cell? ⟨rb, i, none⟩ = some (ptr g) := by
  obtain ⟨a, c, hv, hc⟩ := h.row.form
  cases hv
  obtain ⟨b', hb', _, _, hcell⟩ := hc (by intro hn; have := (List.getElem?_eq_some_iff.1 hg).1; simp at hn; rw [hn] at this; simp at this)
  cases hb'
  exact hcell i _ (by simp [hg])
theorem OnceAt.slen (h : OnceAt w wr m b R S rb cap k gs Lb cls e ss) : ss.length = k := by rw [← h.machs.len]; exact h.glen
theorem OnceAt.words (h : OnceAt w wr m b R S rb cap k gs Lb cls e ss) : ∀ v ∈ emem Lb cls e, 0 ≤ v ∧ v < 18446744073709551616 := by
  have hbd := rw1_bd (e := e) h.c0 h.c3
  exact (h.ok.set 4 _ hbd.1 hbd.2).words
theorem OnceAt.llen (h : OnceAt w wr m b R S rb cap k gs Lb cls e ss) : 4 < Lb.length := by rw [h.ok.len]; omega
theorem OnceAt.step (h : OnceAt w wr m b R S rb cap k gs Lb cls e ss) {i g : Nat} {s : En} (hg : gs[i]? = some g) (hs : ss[i]? = some s) :
    Calls Try.prog 9 #[.pointer (some ⟨g, 0, none⟩)] wr fun y w' => y = .returned (.bool (decide (s.ph < 2))) ∧ ∃ e2, OnceAt w w' m b R S rb cap k gs Lb cls e2 (ss.set i (enStep 4 1 (emem Lb cls e) s)) := by
  obtain ⟨x, M⟩ := h.mem
  have hbd := sumE_bd h.wins.ok
  have hk5 := h.k5
  have hsl := h.slen
  have hmem := List.mem_of_getElem? hs
  have hll := h.llen
  refine (h.machs.step h.hR M (by unfold emem; rw [List.length_set]; exact hll) h.words hg hs (h.wins.ok s hmem).en (by omega)).mono ?_
  rintro y w' ⟨rfl, hu, HM, HR, x', M'⟩
  obtain ⟨e2, he2, hw2⟩ := h.wins.step hll h.c0 h.c3 hs
  have hgm := List.mem_of_getElem? hg
  refine ⟨rfl, e2, h.glen, ?_, HM, HR, ⟨x', ?_⟩, hw2, h.keeps.upd hu (by simp; exact ⟨h.machs.ge g hgm, h.hm, h.hb⟩), h.hm, h.hb, hk5, h.ok, h.c0, h.c3⟩
  · have n1 := h.row.ne (h.machs.rep i g s hg hs) (by decide)
    have n2 := h.row.ne M.hg (by decide)
    have n3 := h.row.ne M.hb (by decide)
    exact h.row.upd hu (fun z hz => by simp only [List.mem_cons, List.not_mem_nil, or_false, not_or]; exact ⟨n1 z hz, n2 z hz, n3 z hz⟩)
  · have e1 := sumE_set (s' := enStep 4 1 (emem Lb cls e) s) hs
    have e3 := enStep_count 4 1 (emem Lb cls e) s
    rw [e1, e3, ← he2]
    have e4 : 5 + (sumE ss - s.c + (s.c + enCount s)) = 5 + sumE ss + enCount s := by omega
    rw [e4]
    exact M'
end
end Go.Proofs.Ytaecapjicphdkaa
