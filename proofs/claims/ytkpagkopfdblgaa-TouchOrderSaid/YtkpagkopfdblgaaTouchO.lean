/- Three who touch one word. -/
import Derived.Test.YtkpagkopfdblgaaTouchF
namespace Go.Proofs.Ytkpagkopfdblgaa
set_option linter.unusedVariables false
set_option linter.unusedSimpArgs false
open Go Go.RowKit
set_option maxRecDepth 100000
set_option maxHeartbeats 1000000

/-- One who adds, before or behind its one access. -/
def TRep (w : World) (g m cy : Nat) (a : Int) (d : Bool) : Prop :=
  ∃ V, Has w g (touchOf (if d then .nilFunc else bound (touchNx 8) g) (if d then 1 else 0) m cy a 0 0 V) 157 ∧ (d = false → V = 0)
theorem TRep.upd {S : List Nat} {w w' : World} {g m cy : Nat} {a : Int} {d : Bool} (h : TRep w g m cy a d) (hu : Upd S w w') (hn : g ∉ S) : TRep w' g m cy a d := by
  obtain ⟨V, h1, h2⟩ := h
  exact ⟨V, h1.upd hu hn, h2⟩
theorem TRep.ne {w : World} {g m cy b : Nat} {a : Int} {d : Bool} {cs : Array Value} {t : TypeId} (h : TRep w g m cy a d) (k : Has w b cs t) (hn : 157 ≠ t) : g ≠ b := by
  obtain ⟨V, h1, _⟩ := h
  exact h1.ne k hn
theorem TRep.lt {w : World} {g m cy : Nat} {a : Int} {d : Bool} (h : TRep w g m cy a d) : g < w.heap.size := by
  obtain ⟨V, h1, _⟩ := h
  exact h1.lt
theorem nodupT_inj {gs : List Nat} (h : gs.Nodup) {i j g : Nat} (hi : gs[i]? = some g) (hj : gs[j]? = some g) : i = j := by
  obtain ⟨h1, e1⟩ := List.getElem?_eq_some_iff.1 hi
  obtain ⟨h2, e2⟩ := List.getElem?_eq_some_iff.1 hj
  rcases Nat.lt_trichotomy i j with hlt | heq | hlt
  · exact absurd (e1.trans e2.symm) (List.pairwise_iff_getElem.1 h i j h1 h2 hlt)
  · exact heq
  · exact absurd (e2.trans e1.symm) (List.pairwise_iff_getElem.1 h j i h2 h1 hlt)
structure Tms (B : Nat) (w : World) (m cy : Nat) (gs : List Nat) (us : List Int) (ds : List Bool) : Prop where
  len : gs.length = ds.length
  nodup : gs.Nodup
  ge : ∀ g ∈ gs, B ≤ g
  rep : ∀ (i : Nat) g a d, gs[i]? = some g → us[i]? = some a → ds[i]? = some d → TRep w g m cy a d
section
variable {B : Nat} {w w' : World} {m cy bb N : Nat} {gs : List Nat} {us : List Int} {ds : List Bool} {S : List Nat} {l : List Int} {cc : Int} {x : Acc}
theorem Tms.upd (h : Tms B w m cy gs us ds) (hu : Upd S w w') (hS : ∀ g ∈ gs, g ∉ S) : Tms B w' m cy gs us ds :=
  ⟨h.len, h.nodup, h.ge, fun i g a d hg ha hd => (h.rep i g a d hg ha hd).upd hu (hS g (List.mem_of_getElem? hg))⟩
theorem Tms.keeps (h : Tms B w m cy gs us ds) (k : Keeps w w') : Tms B w' m cy gs us ds := h.upd (Upd.of_keeps (S := []) k) (by simp)
theorem Tms.at_ (h : Tms B w m cy gs us ds) (hl : us.length = 3) (hk : gs.length ≤ 3) {g : Nat} (hg : g ∈ gs) : ∃ (i : Nat) (a : Int) (d : Bool), gs[i]? = some g ∧ TRep w g m cy a d := by
  obtain ⟨i, hi, e⟩ := List.mem_iff_getElem.1 hg
  have h1 : i < ds.length := by rw [← h.len]; exact hi
  have h2 : i < us.length := by omega
  exact ⟨i, us[i], ds[i], by rw [List.getElem?_eq_getElem hi, e], h.rep i g _ _ (by rw [List.getElem?_eq_getElem hi, e]) (List.getElem?_eq_getElem h2) (List.getElem?_eq_getElem h1)⟩
theorem Tms.snoc {g : Nat} {a : Int} (h : Tms B w m cy gs us ds) (hg : TRep w g m cy a false) (ha : us[gs.length]? = some a) (hn : g ∉ gs) (hB : B ≤ g) : Tms B w m cy (gs ++ [g]) us (ds ++ [false]) := by
  refine ⟨by simp [h.len], ?_, ?_, ?_⟩
  · rw [List.nodup_append]
    exact ⟨h.nodup, by simp, fun a ha b hb => by simp at hb; subst hb; rintro rfl; exact hn ha⟩
  · intro x hx
    rcases List.mem_append.1 hx with hx | hx
    · exact h.ge x hx
    · simp at hx; subst hx; exact hB
  · intro i y b d hx hb ht
    rcases Nat.lt_or_ge i gs.length with hi | hi
    · rw [List.getElem?_append_left hi] at hx
      rw [List.getElem?_append_left (by rw [← h.len]; exact hi)] at ht
      exact h.rep i y b d hx hb ht
    · rw [List.getElem?_append_right hi] at hx
      rw [List.getElem?_append_right (by rw [← h.len]; exact hi)] at ht
      rw [← h.len] at ht
      cases hk : i - gs.length with
      | zero =>
        rw [hk] at hx ht
        have e : i = gs.length := by omega
        rw [e, ha] at hb
        simp at hx ht hb
        subst hx; subst ht; subst hb
        exact hg
      | succ k => rw [hk] at hx; simp at hx
theorem Tms.step {r g : Nat} {a o : Int} (h : Tms B w m cy gs us ds) (M : Mem w m bb N l cc x) (hl : us.length = 3) (hg : gs[r]? = some g) (ha : us[r]? = some a) (hd : ds[r]? = some false) (ho : l[cy]? = some o) (hcc : cc < 4611686018427387903) :
    Calls Try.prog 61 #[.pointer (some ⟨g, 0, none⟩)] w fun e w' => e = .returned (.bool true) ∧ Upd [g, m, bb] w w' ∧
      Tms B w' m cy gs us (ds.set r true) ∧ Has w' g (touchOf .nilFunc 1 m cy a 0 0 o) 157 ∧ ∃ x', Mem w' m bb N (l.set cy (IntKind.u64.wrap (o + a))) (cc + 1) x' := by
  obtain ⟨V, h1, h2⟩ := h.rep r g a false hg ha hd
  obtain rfl := h2 rfl
  simp only [Bool.false_eq_true, if_false] at h1
  refine (touchStep_c h1 M (by simp) ho (by omega) (by omega) hcc).mono ?_
  rintro e w' ⟨rfl, hu, hG, x', M', -⟩
  have e1 : tN 8 o a = 0 := by simp [tN]
  have e2 : tV 8 o = o := by simp [tV]
  have e3 : tMem 8 l cy o a 0 = l.set cy (IntKind.u64.wrap (o + a)) := by simp [tMem]
  have hG : Has w' g (touchOf .nilFunc 1 m cy a 0 0 o) 157 := by rw [e1, e2] at hG; exact hG
  rw [e3] at M'
  refine ⟨rfl, hu, ⟨by simp [h.len], h.nodup, h.ge, fun j y b d hy hb ht => ?_⟩, hG, x', M'⟩
  by_cases hij : j = r
  · subst hij
    rw [hg] at hy; cases hy
    rw [ha] at hb; cases hb
    have hj := (List.getElem?_eq_some_iff.1 hd).1
    rw [List.getElem?_set_self hj] at ht; cases ht
    exact ⟨o, hG, by simp⟩
  · rw [List.getElem?_set_ne (fun e => hij e.symm)] at ht
    have hrj := h.rep j y b d hy hb ht
    have hne : y ≠ g := by
      rintro rfl
      exact hij (nodupT_inj h.nodup hy hg)
    have n2 := hrj.ne M.hg (by decide)
    have n3 := hrj.ne M.hb (by decide)
    exact hrj.upd hu (by simp; exact ⟨hne, n2, n3⟩)
end
/-- What is added so far. -/
def sumD : List Int → List Bool → Int
  | a :: us, d :: ds => (if d then a else 0) + sumD us ds
  | _, _ => 0
theorem sumD_set {us : List Int} {ds : List Bool} {r : Nat} {a : Int} (ha : us[r]? = some a) (hd : ds[r]? = some false) : sumD us (ds.set r true) = sumD us ds + a := by
  induction us generalizing ds r with
  | nil => simp at ha
  | cons b us ih =>
    cases ds with
    | nil => simp at hd
    | cons d ds =>
      cases r with
      | zero => simp at ha hd; subst ha; subst hd; simp [sumD]; omega
      | succ r =>
        simp only [List.getElem?_cons_succ] at ha hd
        simp only [List.set_cons_succ, sumD, ih ha hd]
        omega
theorem wrap_again (s d a : Int) : IntKind.u64.wrap (IntKind.u64.wrap (s + d) + a) = IntKind.u64.wrap (s + (d + a)) := by
  simp only [IntKind.wrap_u64]
  omega
theorem wrap_all (s a b c : Int) : IntKind.u64.wrap (s + (a + (b + (c + 0)))) = IntKind.u64.wrap (IntKind.u64.wrap (IntKind.u64.wrap (s + a) + b) + c) := by
  simp only [IntKind.wrap_u64]
  omega
theorem wrap_same (s : Int) (h0 : 0 ≤ s) (h1 : s < 18446744073709551616) : s = IntKind.u64.wrap (s + 0) := by
  simp only [IntKind.wrap_u64]
  omega
theorem wrap_ne (s : Int) : IntKind.u64.wrap (IntKind.u64.wrap s + 1) ≠ IntKind.u64.wrap s := by
  simp only [IntKind.wrap_u64]
  omega
/-- The array of three, so many of them made. -/
def arrP (gs : List Nat) : Array Value := (gs.map (fun g => Value.pointer (some ⟨g, 0, none⟩)) ++ List.replicate (3 - gs.length) (Value.pointer none)).toArray
theorem arrP_get {gs : List Nat} {i g : Nat} (h : gs[i]? = some g) : (arrP gs)[i]? = some (.pointer (some ⟨g, 0, none⟩)) := by
  have hi := (List.getElem?_eq_some_iff.1 h).1
  simp only [arrP, List.getElem?_toArray]
  rw [List.getElem?_append_left (by simpa using hi), List.getElem?_map, h]
  rfl
theorem arrP_no {gs : List Nat} (h : gs.length < 3) : (arrP gs)[gs.length]? = some (.pointer none) := by
  simp only [arrP, List.getElem?_toArray]
  match gs, h with
  | [], _ => rfl
  | [a], _ => rfl
  | [a, b], _ => rfl
theorem arrP_set {gs : List Nat} (g : Nat) (h : gs.length < 3) : (arrP gs).setIfInBounds gs.length (.pointer (some ⟨g, 0, none⟩)) = arrP (gs ++ [g]) := by
  match gs, h with
  | [], _ => rfl
  | [a], _ => rfl
  | [a, b], _ => rfl
end Go.Proofs.Ytkpagkopfdblgaa
