/- Several Ends at once, in plain Lean: one does it. -/
import Derived.Test.YtaecapjicphdkaaRootsM
import Derived.Test.YtaecapjicphdkaaRootsP
namespace Go.Proofs.Ytaecapjicphdkaa
set_option linter.unusedVariables false
set_option linter.unusedSimpArgs false
open Go Go.RowKit
set_option maxRecDepth 100000

/-- The root's word: live (e = 0), ended (e = 1). -/
def rw1 (cls e : Int) : Int := if e = 0 then 4295032832 + cls * 4096 else 4294967296
def emem (Lb : List Int) (cls e : Int) : List Int := Lb.set 4 (rw1 cls e)
structure EOk (cls e : Int) (s : En) : Prop where
  ch : s.chunk = -1
  w0 : 0 ≤ s.was
  w1 : s.was < 18446744073709551616
  st : (s.ph = 0 ∧ s.code = 0 ∧ (s.c = 0 ∨ (s.c = 2 ∧ e = 1))) ∨ (s.ph = 1 ∧ s.code = 0 ∧ s.c = 1 ∧ s.was = rw1 cls 0) ∨ (s.ph = 2 ∧ (s.code = 0 ∨ s.code = 3) ∧ 0 ≤ s.c ∧ s.c ≤ 3 ∧ e = 1)
def fineI (s : En) : Int := if s.ph = 2 ∧ s.code = 0 then 1 else 0
def cntE : List En → Int
  | [] => 0
  | s :: ss => fineI s + cntE ss
def sumE : List En → Int
  | [] => 0
  | s :: ss => s.c + sumE ss
theorem cntE_set : ∀ {ss : List En} {i : Nat} {s s' : En}, ss[i]? = some s → cntE (ss.set i s') = cntE ss - fineI s + fineI s'
  | [], i, s, s', h => by simp at h
  | t :: ss, 0, s, s', h => by simp at h; subst h; simp [cntE]; omega
  | t :: ss, i + 1, s, s', h => by
    have ih := cntE_set (ss := ss) (s' := s') (show ss[i]? = some s by simpa using h)
    simp [cntE, ih]; omega
theorem sumE_set : ∀ {ss : List En} {i : Nat} {s s' : En}, ss[i]? = some s → sumE (ss.set i s') = sumE ss - s.c + s'.c
  | [], i, s, s', h => by simp at h
  | t :: ss, 0, s, s', h => by simp at h; subst h; simp [sumE]; omega
  | t :: ss, i + 1, s, s', h => by
    have ih := sumE_set (ss := ss) (s' := s') (show ss[i]? = some s by simpa using h)
    simp [sumE, ih]; omega
theorem cntE_take : ∀ {ss : List En} {i : Nat} {s : En}, ss[i]? = some s → cntE (ss.take (i + 1)) = cntE (ss.take i) + fineI s
  | [], i, s, h => by simp at h
  | t :: ss, 0, s, h => by simp at h; subst h; simp [cntE]
  | t :: ss, i + 1, s, h => by
    have ih := cntE_take (ss := ss) (show ss[i]? = some s by simpa using h)
    simp [cntE, ih]; omega
theorem cntE_nonneg : ∀ (ss : List En), 0 ≤ cntE ss
  | [] => by simp [cntE]
  | s :: ss => by have := cntE_nonneg ss; simp only [cntE, fineI]; split <;> omega
theorem cntE_append : ∀ (a b : List En), cntE (a ++ b) = cntE a + cntE b
  | [], b => by simp [cntE]
  | s :: a, b => by simp [cntE, cntE_append a b]; omega
theorem cntE_take_le (ss : List En) (i : Nat) : 0 ≤ cntE (ss.take i) ∧ cntE (ss.take i) ≤ cntE ss := by
  have h := cntE_append (ss.take i) (ss.drop i)
  rw [List.take_append_drop] at h
  have h1 := cntE_nonneg (ss.drop i)
  have h2 := cntE_nonneg (ss.take i)
  omega
structure EWins (cls e : Int) (ss : List En) : Prop where
  e01 : e = 0 ∨ e = 1
  ok : ∀ s ∈ ss, EOk cls e s
  cnt : cntE ss = e
theorem rw1_bd {cls e : Int} (h0 : 0 ≤ cls) (h3 : cls ≤ 3) : 0 ≤ rw1 cls e ∧ rw1 cls e < 18446744073709551616 := by
  unfold rw1; split <;> omega
theorem rw1_root {cls : Int} (h0 : 0 ≤ cls) (h3 : cls ≤ 3) : rootI 1 1 cls 0 = rw1 cls 0 := by
  unfold rootI rw1; rw [if_pos (rootB_true.2 (by omega)), if_pos rfl]; omega
theorem rw1_gone (cls : Int) : rootI (rw1 cls 1 / 4294967296) 0 0 0 = rw1 cls 1 := by
  unfold rw1; rw [if_neg (by omega)]; decide
theorem rw1_end {cls : Int} (h0 : 0 ≤ cls) (h3 : cls ≤ 3) : rootI (rw1 cls 0 / 4294967296) 0 0 0 = rw1 cls 1 := by
  have e : rw1 cls 0 / 4294967296 = 1 := by unfold rw1; rw [if_pos rfl]; omega
  rw [e]; unfold rw1; rw [if_neg (by omega)]; decide
theorem rw1_live {cls : Int} (h0 : 0 ≤ cls) (h3 : cls ≤ 3) : liveW (rw1 cls 0) 1 = true := by
  have e1 : rw1 cls 0 / 4294967296 = 1 := by unfold rw1; rw [if_pos rfl]; omega
  have e2 : rw1 cls 0 / 65536 % 65536 = 1 := by unfold rw1; rw [if_pos rfl]; omega
  unfold liveW; rw [e1, e2]; decide
theorem rw1_dead (cls : Int) : liveW (rw1 cls 1) 1 = false := by
  unfold rw1; rw [if_neg (by omega)]; decide
theorem rw1_chunk {cls : Int} (h0 : 0 ≤ cls) (h3 : cls ≤ 3) : chunkI (rw1 cls 0 / 65536 % 65536) = -1 := by
  have e2 : rw1 cls 0 / 65536 % 65536 = 1 := by unfold rw1; rw [if_pos rfl]; omega
  rw [e2]; decide
section
variable {Lb : List Int} {cls e : Int}
theorem emem_at (h : 4 < Lb.length) : (emem Lb cls e).getD 4 0 = rw1 cls e := getD_set_eq _ h
theorem emem_set {v : Int} : (emem Lb cls e).set 4 v = Lb.set 4 v := by unfold emem; rw [List.set_set]
theorem estep (hb : 4 < Lb.length) (h0 : 0 ≤ cls) (h3 : cls ≤ 3) (h : e = 0 ∨ e = 1) {s : En} (hs : EOk cls e s) :
    ∃ e', (e' = 0 ∨ e' = 1) ∧ (e = 1 → e' = 1) ∧ EOk cls e' (enStep 4 1 (emem Lb cls e) s) ∧ enMem 4 (emem Lb cls e) s = emem Lb cls e' ∧ e' - e = fineI (enStep 4 1 (emem Lb cls e) s) - fineI s ∧
      (s.ph = 2 → enStep 4 1 (emem Lb cls e) s = s) ∧ (s.ph ≠ 2 → (enStep 4 1 (emem Lb cls e) s).c = s.c + 1) := by
  obtain ⟨ph, c, was, code, chunk, point⟩ := s
  obtain ⟨hch, w0, w1, st⟩ := hs
  dsimp only at hch w0 w1 st
  subst hch
  have hat := emem_at (cls := cls) (e := e) hb
  rcases st with ⟨rfl, rfl, hc⟩ | ⟨rfl, rfl, rfl, rfl⟩ | ⟨rfl, hc, c0, c3, rfl⟩
  · have hbd := rw1_bd (e := e) h0 h3
    rcases h with rfl | rfl
    · have e1 : enStep 4 1 (emem Lb cls 0) ⟨0, c, was, 0, -1, point⟩ = ⟨1, c + 1, rw1 cls 0, 0, -1, point⟩ := by
        show (if liveW ((emem Lb cls 0).getD 4 0) 1 = true then _ else _) = _
        rw [hat, rw1_live h0 h3]; rfl
      refine ⟨0, .inl rfl, fun h => h, ?_, rfl, ?_, fun h => by simp at h, fun _ => by rw [e1]⟩
      · rw [e1]; exact ⟨rfl, hbd.1, hbd.2, .inr (.inl ⟨rfl, rfl, by show c + 1 = 1; omega, rfl⟩)⟩
      · rw [e1]; rfl
    · have e1 : enStep 4 1 (emem Lb cls 1) ⟨0, c, was, 0, -1, point⟩ = ⟨2, c + 1, rw1 cls 1, 3, -1, c + 1⟩ := by
        show (if liveW ((emem Lb cls 1).getD 4 0) 1 = true then _ else _) = _
        rw [hat, rw1_dead]; rfl
      refine ⟨1, .inr rfl, fun _ => rfl, ?_, rfl, ?_, fun h => by simp at h, fun _ => by rw [e1]⟩
      · rw [e1]; exact ⟨rfl, hbd.1, hbd.2, .inr (.inr ⟨rfl, .inr rfl, by show 0 ≤ c + 1; omega, by show c + 1 ≤ 3; omega, rfl⟩)⟩
      · rw [e1]; simp [fineI]
  · rcases h with rfl | rfl
    · have e1 : enStep 4 1 (emem Lb cls 0) ⟨1, 1, rw1 cls 0, 0, -1, point⟩ = ⟨2, 1 + 1, rw1 cls 0, 0, -1, 1 + 1⟩ := by
        show (if (emem Lb cls 0).getD 4 0 = rw1 cls 0 then _ else _) = _
        rw [if_pos hat]
        show (⟨2, 1 + 1, rw1 cls 0, 0, chunkI (rw1 cls 0 / 65536 % 65536), 1 + 1⟩ : En) = _
        rw [rw1_chunk h0 h3]
      have e2 : enMem 4 (emem Lb cls 0) ⟨1, 1, rw1 cls 0, 0, -1, point⟩ = emem Lb cls 1 := by
        show (if (emem Lb cls 0).getD 4 0 = rw1 cls 0 then _ else _) = _
        rw [if_pos hat]
        show (emem Lb cls 0).set 4 (rootI (rw1 cls 0 / 4294967296) 0 0 0) = _
        rw [emem_set, rw1_end h0 h3]; rfl
      refine ⟨1, .inr rfl, fun _ => rfl, ?_, e2, ?_, fun h => by simp at h, fun _ => by rw [e1]⟩
      · rw [e1]; exact ⟨rfl, w0, w1, .inr (.inr ⟨rfl, .inl rfl, by show (0 : Int) ≤ 1 + 1; omega, by show (1 : Int) + 1 ≤ 3; omega, rfl⟩)⟩
      · rw [e1]; simp [fineI]
    · have hne : (emem Lb cls 1).getD 4 0 ≠ rw1 cls 0 := by
        rw [hat]; unfold rw1; rw [if_neg (by omega), if_pos rfl]; omega
      have e1 : enStep 4 1 (emem Lb cls 1) ⟨1, 1, rw1 cls 0, 0, -1, point⟩ = ⟨0, 1 + 1, rw1 cls 0, 0, -1, point⟩ := if_neg hne
      have e2 : enMem 4 (emem Lb cls 1) ⟨1, 1, rw1 cls 0, 0, -1, point⟩ = emem Lb cls 1 := if_neg hne
      refine ⟨1, .inr rfl, fun _ => rfl, ?_, e2, ?_, fun h => by simp at h, fun _ => by rw [e1]⟩
      · rw [e1]; exact ⟨rfl, w0, w1, .inl ⟨rfl, rfl, .inr ⟨rfl, rfl⟩⟩⟩
      · rw [e1]; simp [fineI]
  · refine ⟨1, .inr rfl, fun _ => rfl, ⟨rfl, w0, w1, .inr (.inr ⟨rfl, hc, c0, c3, rfl⟩)⟩, rfl, by simp [enStep], fun _ => rfl, fun h => absurd rfl h⟩
theorem EOk.up {s : En} {e' : Int} (h : EOk cls e s) (he : e = 0 ∨ e = 1) (h1 : e = 1 → e' = 1) : EOk cls e' s := by
  obtain ⟨a, b, c, d⟩ := h
  refine ⟨a, b, c, ?_⟩
  rcases d with ⟨d1, d2, d3⟩ | d | ⟨d1, d2, d3, d4, d5⟩
  · refine .inl ⟨d1, d2, d3.imp id (fun ⟨x, y⟩ => ⟨x, h1 y⟩)⟩
  · exact .inr (.inl d)
  · exact .inr (.inr ⟨d1, d2, d3, d4, h1 d5⟩)
theorem EWins.step (hb : 4 < Lb.length) (h0 : 0 ≤ cls) (h3 : cls ≤ 3) {ss : List En} (h : EWins cls e ss) {i : Nat} {s : En} (hi : ss[i]? = some s) :
    ∃ e', enMem 4 (emem Lb cls e) s = emem Lb cls e' ∧ EWins cls e' (ss.set i (enStep 4 1 (emem Lb cls e) s)) := by
  obtain ⟨e', k1, k2, k3, k4, k5, -, -⟩ := estep hb h0 h3 h.e01 (h.ok s (List.mem_of_getElem? hi))
  refine ⟨e', k4, k1, fun t ht => ?_, ?_⟩
  · rcases List.mem_or_eq_of_mem_set ht with ht | rfl
    · exact (h.ok t ht).up h.e01 k2
    · exact k3
  · rw [cntE_set hi, h.cnt]; omega
theorem EOk.en {s : En} (h : EOk cls e s) : EnOk s := ⟨h.w0, h.w1, by have := h.st; omega, by have := h.st; omega⟩
theorem sumE_bd : ∀ {ss : List En}, (∀ s ∈ ss, EOk cls e s) → 0 ≤ sumE ss ∧ sumE ss ≤ 5 * ss.length
  | [], _ => by simp [sumE]
  | s :: ss, h => by
    have ih := sumE_bd (ss := ss) (fun t ht => h t (List.mem_cons_of_mem _ ht))
    have hs := (h s (List.mem_cons_self ..)).st
    simp only [sumE, List.length_cons]
    omega
theorem enStep_count (q : Nat) (gen : Int) (l : List Int) (s : En) : (enStep q gen l s).c = s.c + enCount s := by
  obtain ⟨ph, c, was, code, chunk, point⟩ := s
  match ph with
  | 0 =>
    show (if liveW (l.getD q 0) gen = true then (_ : En) else _).c = c + 1
    split <;> rfl
  | 1 =>
    show (if l.getD q 0 = was then (_ : En) else _).c = c + 1
    split <;> rfl
  | k + 2 =>
    have e1 : enCount ⟨k + 2, c, was, code, chunk, point⟩ = 0 := by unfold enCount; rw [if_neg (show ¬ k + 2 < 2 by omega)]
    rw [e1, Int.add_zero]; rfl
end
end Go.Proofs.Ytaecapjicphdkaa
