/- What package grip does: each function walked once. -/
import Derived.Test.YthlojiefnclgkaaHeap
namespace Go.Proofs.Ythlojiefnclgkaa
set_option linter.unusedVariables false
set_option linter.unusedSimpArgs false
open Go Go.RowKit
set_option maxRecDepth 100000

/-- Pairs, as cells. -/
def flat2 (L : List (Int × Int)) : List Value := L.flatMap fun p => [.int .i64 p.1, .int .i64 p.2]
theorem flat2_len (L : List (Int × Int)) : (flat2 L).length = L.length * 2 := by
  induction L with
  | nil => rfl
  | cons p L ih => simp [flat2] at ih ⊢; omega
theorem flat2_at : ∀ (L : List (Int × Int)) (k : Nat) (h : k < L.length), (flat2 L)[k * 2]? = some (.int .i64 L[k].1) ∧ (flat2 L)[k * 2 + 1]? = some (.int .i64 L[k].2)
  | [], k, h => absurd h (Nat.not_lt_zero _)
  | p :: L, 0, _ => by simp [flat2]
  | p :: L, k + 1, h => by
    have := flat2_at L k (by simpa using h)
    simp only [flat2, List.flatMap_cons] at this ⊢
    rw [show (k + 1) * 2 = k * 2 + 1 + 1 by omega, show k * 2 + 1 + 1 + 1 = k * 2 + 1 + 1 + 1 from rfl]
    simpa using this

/-- A slice of pairs of the call's own. -/
def Pairs (w : World) (B : Nat) (t : TypeId) (v : Value) (L : List (Int × Int)) : Prop := w.ownsRow B t 2 v L.length (flat2 L)
theorem Pairs.form {w : World} {B : Nat} {t : TypeId} {v : Value} {L : List (Int × Int)} (h : Pairs w B t v L) : ∃ a cap, v = .slice a L.length cap ∧ (L ≠ [] → ∃ b, a = some ⟨b, 0, none⟩ ∧ b < w.heap.size ∧ ∀ k, (h : k < L.length) → w.cell? ⟨b, k * 2, none⟩ = some (.int .i64 L[k].1) ∧ w.cell? ⟨b, k * 2 + 1, none⟩ = some (.int .i64 L[k].2)) := by
  obtain ⟨hl, ⟨rfl, hn⟩ | ⟨g, cap, cur, rfl, hB, hg, h1, h2, h3, h4⟩⟩ := h
  · exact ⟨none, 0, by rw [hn], fun h => absurd (List.length_eq_zero_iff.1 hn) h⟩
  · refine ⟨some ⟨g, 0, none⟩, cap, rfl, fun _ => ⟨g, rfl, (Array.getElem?_eq_some_iff.1 hg).1, fun k hk => ?_⟩⟩
    have hc : ∀ j, j < L.length * 2 → w.cell? ⟨g, j, none⟩ = (flat2 L)[j]? := by
      intro j hj
      rw [← h4, List.getElem?_take_of_lt hj]
      simp [World.cell?, hg]
    rw [hc _ (by omega), hc _ (by omega)]
    exact flat2_at L k hk

theorem gindex_c (v : Value) (L : List (Int × Int)) (B : Nat) (a b : Int) (w : World) (h : Pairs w B 208 v L) (hl : L.length ≤ 100000) :
    Calls Try.prog 205 #[v, .agg #[.int .i64 a, .int .i64 b]] w fun e w' => ∃ r : Int, e = .returned (.int .i64 r) ∧ decide (0 ≤ r) = decide ((a, b) ∈ L) ∧ Keeps w w' := by
  obtain ⟨ad, cap, rfl, hr⟩ := h.form
  have HR := Lib.hid hr
  clear hr h
  go_enter Try.func205, Try.ntmps205
  go_wp2
  go_loopw [8] (fun i wr => ∃ k : Nat, k ≤ L.length ∧ i = .int .i64 k ∧ Hid (∀ j, j < k → L[j]? ≠ some (a, b)) ∧ Keeps (w.alloc (.cells #[.int .i64 a, .int .i64 b] 208)) wr) (fun i _ => L.length - (intOf i).toNat)
  case atStart => exact ⟨0, by omega, rfl, Lib.hid (fun j hj => by omega), Keeps.refl _⟩
  case round =>
    obtain ⟨k, hk, rfl, hno, K⟩ := hrel
    by_cases hlt : k < L.length
    · obtain ⟨rb, rfl, hb, hc⟩ := HR.out (by rintro rfl; simp at hlt)
      have Kw : Keeps w wr := ((Keeps.refl w).alloc _).trans K
      have hbx := (Has.new w #[.int .i64 a, .int .i64 b] 208).keeps K
      obtain ⟨c1, c2⟩ := hc k hlt
      rw [← Kw.cell hb] at c1 c2
      have hbw := Nat.lt_of_lt_of_le hb Kw.size
      clear hc
      have F_ := (hbx).facts; simp only [blockFacts, listFacts, cellsAt, Nat.reduceAdd, and_true, true_and, and_assoc] at F_
      go_wp2
      refine wp_region_after_lit (by kernel_rfl) (by kernel_rfl) ?_
      repeat (first | go_big_quiet_step ((fail)) | ((with_reducible refine wpQuiet_step (fun K hK => ?_)); go_simp; refine hK _ ?_; clear hK K))
      obtain ⟨c, E0⟩ : ∃ c, Hid (c = (L[k] == (a, b))) := ⟨_, Lib.hid rfl⟩
      have E : Hid ((decide (a = L[k].fst) && decide (b = L[k].snd)) = c) := by
        show _ = _
        rw [E0.out]
        rw [Bool.eq_iff_iff]; simp [Prod.ext_iff]; constructor <;> (rintro ⟨h1, h2⟩; exact ⟨h1.symm, h2.symm⟩)
      (with_reducible refine wpQuiet_step (fun K hK => ?_))
      go_simp
      refine ⟨.bool (decide (a = L[k].fst) && decide (b = L[k].snd)), fun u => ?_, hK _ ?_⟩
      · by_cases e1 : a = L[k].fst
        · by_cases e2 : b = L[k].snd <;> simp [e1, e2]
        · simp [e1]
      clear hK K
      rw [E.out]
      refine wpQuiet_nil ?_
      intro _ hw'
      obtain ⟨uq, hw''⟩ := hw'
      subst hw''
      cases c
      · go_wp2
        go_roundw
        case rel =>
          refine ⟨k + 1, by omega, by go_num, Lib.hid (fun j hj => ?_), K.trans uq.keeps⟩
          rcases Nat.lt_or_ge j k with h1 | h1
          · exact hno.out j h1
          · obtain rfl : j = k := by omega
            rw [List.getElem?_eq_getElem hlt]
            intro e
            have := E0.out
            simp at this e
            exact this e
        case measure => simp [intOf]; omega
      · go_wp2
        go_ret
        refine ⟨k, rfl, ?_, Kw.trans uq.keeps⟩
        have : (a, b) ∈ L := by
          have := E0.out
          simp at this
          rw [← this]; exact List.getElem_mem hlt
        simp [this]
    · obtain rfl : k = L.length := by omega
      go_wp2
      go_ret
      refine ⟨-1, rfl, ?_, ((Keeps.refl w).alloc _).trans K⟩
      have : ¬ (a, b) ∈ L := by
        intro h
        obtain ⟨j, hj, e⟩ := List.mem_iff_getElem.1 h
        exact hno.out j hj (by rw [List.getElem?_eq_getElem hj, e])
      simp [this]

theorem gcontains_c (v : Value) (L : List (Int × Int)) (B : Nat) (a b : Int) (w : World) (h : Pairs w B 208 v L) (hl : L.length ≤ 100000) :
    Calls Try.prog 139 #[v, .agg #[.int .i64 a, .int .i64 b]] w fun e w' => e = .returned (.bool (decide ((a, b) ∈ L))) ∧ Keeps w w' := by
  have h' := h.alloc (.cells #[.int .i64 a, .int .i64 b] 208)
  have hbx := Has.new w #[.int .i64 a, .int .i64 b] 208
  have F_ := (hbx).facts; simp only [blockFacts, listFacts, cellsAt, Nat.reduceAdd, and_true, true_and, and_assoc] at F_
  go_enter Try.func139, Try.ntmps139
  go_wp2_with (go_at_call 205; refine (gindex_c v L B a b _ h' hl).mono ?_; rintro e w' ⟨r, rfl, hr, hk⟩)
  go_ret
  exact ⟨rfl, by (repeat' (first | (with_reducible exact Keeps.refl _) | (with_reducible assumption) | (with_reducible refine Keeps.drewN ?_ _) | (with_reducible refine Keeps.drew ?_) | (with_reducible refine Keeps.alloc ?_ _) | (with_reducible refine Keeps.setCell ?_ ?_ _) | (with_reducible refine Keeps.trans ?_ (After.keeps _)) | (with_reducible refine Keeps.trans ?_ (by with_reducible assumption)) | go_size))⟩

/-- A grip: how deep, what is held. -/
structure GripAt (B : Nat) (w : World) (g : Nat) (d : Int) (L : List (Int × Int)) (v : Value) : Prop where
  hg : Has w g #[.int .i64 d, v] 206
  row : Pairs w B 208 v L
  le : B ≤ g
  size : B ≤ w.heap.size
  len : L.length ≤ 100000
def ownOf (v : Value) : List Nat := v.ownBlock.toList
theorem Pairs.own {w : World} {B : Nat} {t : TypeId} {v : Value} {L : List (Int × Int)} (h : Pairs w B t v L) : ∀ x ∈ ownOf v, B ≤ x ∧ x < w.heap.size := by
  intro x hx
  exact World.ownsRow.lt h x (by simpa [ownOf] using hx)
theorem Pairs.upd {S : List Nat} {w w' : World} {B : Nat} {t : TypeId} {v : Value} {L : List (Int × Int)} (h : Pairs w B t v L) (hu : Upd S w w') (hS : ∀ x ∈ ownOf v, x ∉ S) : Pairs w' B t v L := by
  obtain ⟨hl, ⟨rfl, hn⟩ | ⟨g, cap, cur, rfl, hB, hg, h1⟩⟩ := h
  · exact ⟨hl, .inl ⟨rfl, hn⟩⟩
  · refine ⟨hl, .inr ⟨g, cap, cur, rfl, hB, ?_, h1⟩⟩
    rw [hu.block g (Array.getElem?_eq_some_iff.1 hg).1 (hS g (by simp [ownOf, Value.ownBlock]))]
    exact hg
theorem Pairs.ne {w : World} {B g : Nat} {t u : TypeId} {v : Value} {L : List (Int × Int)} {cs : Array Value} (h : Pairs w B t v L) (hg : Has w g cs u) (hn : t ≠ u) : ∀ x ∈ ownOf v, x ≠ g := by
  obtain ⟨hl, ⟨rfl, hn⟩ | ⟨b, cap, cur, rfl, hB, hb, h1⟩⟩ := h
  · intro x hx; simp [ownOf, Value.ownBlock] at hx
  · intro x hx
    simp [ownOf, Value.ownBlock] at hx
    subst hx
    exact Has.ne (g := x) hb hg hn
theorem GripAt.upd {S : List Nat} {B g : Nat} {w w' : World} {d : Int} {L : List (Int × Int)} {v : Value} (h : GripAt B w g d L v) (hu : Upd S w w') (h1 : g ∉ S) (h2 : ∀ x ∈ ownOf v, x ∉ S) : GripAt B w' g d L v :=
  ⟨h.hg.upd hu h1, h.row.upd hu h2, h.le, Nat.le_trans h.size hu.size, h.len⟩
theorem GripAt.keeps {B g : Nat} {w w' : World} {d : Int} {L : List (Int × Int)} {v : Value} (h : GripAt B w g d L v) (hk : Keeps w w') : GripAt B w' g d L v := h.upd (Upd.of_keeps (S := []) hk) (by simp) (by simp)

theorem gnew_c (w : World) (B : Nat) (hB : B ≤ w.heap.size) : Calls Try.prog 37 #[] w fun e w' => ∃ g, e = .returned (.pointer (some ⟨g, 0, none⟩)) ∧ Keeps w w' ∧ w.heap.size ≤ g ∧ GripAt B w' g 0 [] (.slice none 0 0) := by
  go_enter Try.func37, Try.ntmps37
  go_wp2
  go_ret
  exact ⟨w.heap.size, rfl, by (repeat' (first | (with_reducible exact Keeps.refl _) | (with_reducible assumption) | (with_reducible refine Keeps.drewN ?_ _) | (with_reducible refine Keeps.drew ?_) | (with_reducible refine Keeps.alloc ?_ _) | (with_reducible refine Keeps.setCell ?_ ?_ _) | (with_reducible refine Keeps.trans ?_ (After.keeps _)) | (with_reducible refine Keeps.trans ?_ (by with_reducible assumption)) | go_size)), by omega, by (apply Has.congr; (focus ((repeat (first | (with_reducible assumption) | (with_reducible exact Has.new _ _ _) | (with_reducible exact Has.new1 _ _ _ _) | (with_reducible exact Has.new2 _ _ _ _ _) | (with_reducible refine Has.newAt ?_; (simp; done)) | (with_reducible apply Has.set) | (with_reducible apply Has.far; (case hn => first | assumption | (simp; done) | (intro e_; simp at e_; omega))) | (with_reducible apply Has.alloc) | (with_reducible apply Has.drewN) | (with_reducible apply Has.drew) | (with_reducible refine Has.keeps ?_ (by with_reducible assumption)))))); (first | rfl | (simp; done))), World.ownsRow_nil _ _ _ _, hB, by simp; omega, by simp⟩

theorem GripAt.set {B g : Nat} {w w' : World} {d d' : Int} {L : List (Int × Int)} {v : Value} (h : GripAt B w g d L v) (hu : Upd [g] w w') (hg' : Has w' g #[.int .i64 d', v] 206) : GripAt B w' g d' L v :=
  ⟨hg', h.row.upd hu (fun x hx => by simp; exact h.row.ne h.hg (by decide) x hx), h.le, Nat.le_trans h.size hu.size, h.len⟩
theorem GripAt.none {B g : Nat} {w w' : World} {d d' : Int} {L : List (Int × Int)} {v : Value} (h : GripAt B w g d L v) (hu : Upd [g] w w') (hg' : Has w' g #[.int .i64 d', .slice .none 0 0] 206) : GripAt B w' g d' [] (.slice .none 0 0) :=
  ⟨hg', World.ownsRow_nil _ _ _ _, h.le, Nat.le_trans h.size hu.size, by simp⟩

theorem gpin_c (B g : Nat) (w : World) (d : Int) (L : List (Int × Int)) (v : Value) (h : GripAt B w g d L v) (h0 : 0 ≤ d) (h1 : d < 15) :
    Calls Try.prog 39 #[.pointer (some ⟨g, 0, none⟩)] w fun e w' => e = .returned (.tuple #[.bool (d == 0), .int .i64 0]) ∧ Upd [g] w w' ∧ GripAt B w' g (d + 1) L v := by
  have hg := h.hg
  have F_ := (hg).facts; simp only [blockFacts, listFacts, cellsAt, Nat.reduceAdd, and_true, true_and, and_assoc] at F_
  have e1 : (d + 1 == 1) = (d == 0) := by rw [Bool.eq_iff_iff]; simp; omega
  have E1 := Lib.hid e1
  clear e1
  go_enter Try.func39, Try.ntmps39
  go_wp2
  go_ret2
  have hu : Upd [g] w (w.setCell ⟨g, 0, none⟩ (.int .i64 (d + 1))) := by (repeat (first | (with_reducible exact Upd.refl _ _) | (with_reducible assumption) | (with_reducible refine Upd.setCell ?_ (by first | (left; simp; done) | (right; go_size)) _) | (with_reducible refine Upd.alloc ?_ _) | (with_reducible refine Upd.drewN ?_ _) | (with_reducible refine Upd.drew ?_)))
  exact ⟨by rw [E1.out]; rfl, hu, h.set hu (by (apply Has.congr; (focus ((repeat (first | (with_reducible assumption) | (with_reducible exact Has.new _ _ _) | (with_reducible exact Has.new1 _ _ _ _) | (with_reducible exact Has.new2 _ _ _ _ _) | (with_reducible refine Has.newAt ?_; (simp; done)) | (with_reducible apply Has.set) | (with_reducible apply Has.far; (case hn => first | assumption | (simp; done) | (intro e_; simp at e_; omega))) | (with_reducible apply Has.alloc) | (with_reducible apply Has.drewN) | (with_reducible apply Has.drew) | (with_reducible refine Has.keeps ?_ (by with_reducible assumption)))))); (first | rfl | (simp; done))))⟩

theorem gpin_full (B g : Nat) (w : World) (L : List (Int × Int)) (v : Value) (h : GripAt B w g 15 L v) :
    Calls Try.prog 39 #[.pointer (some ⟨g, 0, none⟩)] w fun e w' => e = .returned (.tuple #[.bool false, .int .i64 8]) ∧ w = w' := by
  have hg := h.hg
  have F_ := (hg).facts; simp only [blockFacts, listFacts, cellsAt, Nat.reduceAdd, and_true, true_and, and_assoc] at F_
  go_enter Try.func39, Try.ntmps39
  go_wp2
  go_ret2
  exact ⟨rfl, rfl⟩

theorem gunpin_none (B g : Nat) (w : World) (L : List (Int × Int)) (v : Value) (h : GripAt B w g 0 L v) :
    Calls Try.prog 41 #[.pointer (some ⟨g, 0, none⟩)] w fun e w' => e = .returned (.tuple #[.bool false, .int .i64 4]) ∧ w = w' := by
  have hg := h.hg
  have F_ := (hg).facts; simp only [blockFacts, listFacts, cellsAt, Nat.reduceAdd, and_true, true_and, and_assoc] at F_
  go_enter Try.func41, Try.ntmps41
  go_wp2
  go_ret2
  exact ⟨rfl, rfl⟩
theorem gunpin_more (B g : Nat) (w : World) (d : Int) (L : List (Int × Int)) (v : Value) (h : GripAt B w g d L v) (h0 : 1 < d) (h1 : d ≤ 15) :
    Calls Try.prog 41 #[.pointer (some ⟨g, 0, none⟩)] w fun e w' => e = .returned (.tuple #[.bool false, .int .i64 0]) ∧ Upd [g] w w' ∧ GripAt B w' g (d - 1) L v := by
  have hg := h.hg
  have F_ := (hg).facts; simp only [blockFacts, listFacts, cellsAt, Nat.reduceAdd, and_true, true_and, and_assoc] at F_
  have hd : d ≠ 0 := by omega
  go_enter Try.func41, Try.ntmps41
  go_wp2
  go_ret2
  have hu : Upd [g] w (w.setCell ⟨g, 0, none⟩ (.int .i64 (d - 1))) := by (repeat (first | (with_reducible exact Upd.refl _ _) | (with_reducible assumption) | (with_reducible refine Upd.setCell ?_ (by first | (left; simp; done) | (right; go_size)) _) | (with_reducible refine Upd.alloc ?_ _) | (with_reducible refine Upd.drewN ?_ _) | (with_reducible refine Upd.drew ?_)))
  exact ⟨rfl, hu, h.set hu (by (apply Has.congr; (focus ((repeat (first | (with_reducible assumption) | (with_reducible exact Has.new _ _ _) | (with_reducible exact Has.new1 _ _ _ _) | (with_reducible exact Has.new2 _ _ _ _ _) | (with_reducible refine Has.newAt ?_; (simp; done)) | (with_reducible apply Has.set) | (with_reducible apply Has.far; (case hn => first | assumption | (simp; done) | (intro e_; simp at e_; omega))) | (with_reducible apply Has.alloc) | (with_reducible apply Has.drewN) | (with_reducible apply Has.drew) | (with_reducible refine Has.keeps ?_ (by with_reducible assumption)))))); (first | rfl | (simp; done))))⟩
theorem gunpin_last (B g : Nat) (w : World) (L : List (Int × Int)) (v : Value) (h : GripAt B w g 1 L v) :
    Calls Try.prog 41 #[.pointer (some ⟨g, 0, none⟩)] w fun e w' => e = .returned (.tuple #[.bool true, .int .i64 0]) ∧ Upd [g] w w' ∧ GripAt B w' g 0 [] (.slice none 0 0) := by
  have hg := h.hg
  have F_ := (hg).facts; simp only [blockFacts, listFacts, cellsAt, Nat.reduceAdd, and_true, true_and, and_assoc] at F_
  go_enter Try.func41, Try.ntmps41
  go_wp2
  go_ret2
  have hu : Upd [g] w ((w.setCell ⟨g, 0, none⟩ (.int .i64 0)).setCell ⟨g, 1, none⟩ (.slice none 0 0)) := by (repeat (first | (with_reducible exact Upd.refl _ _) | (with_reducible assumption) | (with_reducible refine Upd.setCell ?_ (by first | (left; simp; done) | (right; go_size)) _) | (with_reducible refine Upd.alloc ?_ _) | (with_reducible refine Upd.drewN ?_ _) | (with_reducible refine Upd.drew ?_)))
  exact ⟨rfl, hu, h.none hu (by (apply Has.congr; (focus ((repeat (first | (with_reducible assumption) | (with_reducible exact Has.new _ _ _) | (with_reducible exact Has.new1 _ _ _ _) | (with_reducible exact Has.new2 _ _ _ _ _) | (with_reducible refine Has.newAt ?_; (simp; done)) | (with_reducible apply Has.set) | (with_reducible apply Has.far; (case hn => first | assumption | (simp; done) | (intro e_; simp at e_; omega))) | (with_reducible apply Has.alloc) | (with_reducible apply Has.drewN) | (with_reducible apply Has.drew) | (with_reducible refine Has.keeps ?_ (by with_reducible assumption)))))); (first | rfl | (simp; done))))⟩

theorem gdepth_c (B g : Nat) (w : World) (d : Int) (L : List (Int × Int)) (v : Value) (h : GripAt B w g d L v) :
    Calls Try.prog 45 #[.pointer (some ⟨g, 0, none⟩)] w fun e w' => e = .returned (.int .i64 d) ∧ w = w' := by
  have hg := h.hg
  have F_ := (hg).facts; simp only [blockFacts, listFacts, cellsAt, Nat.reduceAdd, and_true, true_and, and_assoc] at F_
  go_enter Try.func45, Try.ntmps45
  go_wp2
  go_ret
  exact ⟨rfl, rfl⟩
theorem glen_c (B g : Nat) (w : World) (d : Int) (L : List (Int × Int)) (v : Value) (h : GripAt B w g d L v) :
    Calls Try.prog 46 #[.pointer (some ⟨g, 0, none⟩)] w fun e w' => e = .returned (.int .i64 L.length) ∧ w = w' := by
  obtain ⟨a, cap, rfl, _⟩ := h.row.form
  have hg := h.hg
  have hl := h.len
  have F_ := (hg).facts; simp only [blockFacts, listFacts, cellsAt, Nat.reduceAdd, and_true, true_and, and_assoc] at F_
  go_enter Try.func46, Try.ntmps46
  go_wp2
  go_ret
  exact ⟨rfl, rfl⟩
theorem gholds_c (B g : Nat) (w : World) (d : Int) (L : List (Int × Int)) (v : Value) (a b : Int) (h : GripAt B w g d L v) :
    Calls Try.prog 47 #[.pointer (some ⟨g, 0, none⟩), .int .i64 a, .int .i64 b] w fun e w' => e = .returned (.bool (decide ((a, b) ∈ L))) ∧ Keeps w w' := by
  have hg := h.hg
  have F_ := (hg).facts; simp only [blockFacts, listFacts, cellsAt, Nat.reduceAdd, and_true, true_and, and_assoc] at F_
  go_enter Try.func47, Try.ntmps47
  go_wp2_with (go_at_call 139; refine (gcontains_c v L B a b _ h.row h.len).mono ?_; rintro e w' ⟨rfl, hk⟩)
  go_ret
  exact ⟨rfl, hk⟩

theorem ghold_unpinned (B g : Nat) (w : World) (L : List (Int × Int)) (v : Value) (a b : Int) (h : GripAt B w g 0 L v) :
    Calls Try.prog 43 #[.pointer (some ⟨g, 0, none⟩), .int .i64 a, .int .i64 b] w fun e w' => e = .returned (.int .i64 4) ∧ w = w' := by
  have hg := h.hg
  have F_ := (hg).facts; simp only [blockFacts, listFacts, cellsAt, Nat.reduceAdd, and_true, true_and, and_assoc] at F_
  go_enter Try.func43, Try.ntmps43
  go_wp2
  go_ret
  exact ⟨rfl, rfl⟩
theorem ghold_held (B g : Nat) (w : World) (d : Int) (L : List (Int × Int)) (v : Value) (a b : Int) (h : GripAt B w g d L v) (hd : 1 ≤ d) (hm : (a, b) ∈ L) :
    Calls Try.prog 43 #[.pointer (some ⟨g, 0, none⟩), .int .i64 a, .int .i64 b] w fun e w' => e = .returned (.int .i64 0) ∧ Keeps w w' := by
  have hg := h.hg
  have F_ := (hg).facts; simp only [blockFacts, listFacts, cellsAt, Nat.reduceAdd, and_true, true_and, and_assoc] at F_
  have hd : d ≠ 0 := by omega
  have HM := Lib.hid (decide_eq_true hm)
  clear hm
  go_enter Try.func43, Try.ntmps43
  go_wp2_with (go_at_call 47; refine (gholds_c B g _ d L v a b h).mono ?_; rintro e w' ⟨rfl, hk⟩; rw [HM.out])
  go_ret
  exact ⟨rfl, hk⟩
theorem ghold_full (B g : Nat) (w : World) (d : Int) (L : List (Int × Int)) (v : Value) (a b : Int) (h : GripAt B w g d L v) (hd : 1 ≤ d) (hm : (a, b) ∉ L) (hl : L.length = 8) :
    Calls Try.prog 43 #[.pointer (some ⟨g, 0, none⟩), .int .i64 a, .int .i64 b] w fun e w' => e = .returned (.int .i64 8) ∧ Keeps w w' := by
  obtain ⟨ad, cap, rfl, _⟩ := h.row.form
  have hg := h.hg
  rw [hl] at hg
  have HL := Lib.hid hl
  have hd : d ≠ 0 := by omega
  have HM := Lib.hid (decide_eq_false hm)
  clear hm hl
  have F_ := (hg).facts; simp only [blockFacts, listFacts, cellsAt, Nat.reduceAdd, and_true, true_and, and_assoc] at F_
  go_enter Try.func43, Try.ntmps43
  go_wp2_with (go_at_call 47; refine (gholds_c B g _ d L _ a b h).mono ?_; rintro e w' ⟨rfl, hk⟩; rw [HM.out]; have hg := hg.keeps hk; have F_ := (hg).facts; simp only [blockFacts, listFacts, cellsAt, Nat.reduceAdd, and_true, true_and, and_assoc] at F_)
  go_ret
  exact ⟨rfl, hk⟩
theorem Upd.of_grown {w w' : World} {v : Value} (h : w.grownBy w' v.ownBlock) : Upd (ownOf v) w w' :=
  ⟨h.os, h.tape, h.output, h.size, fun k hk hn => h.block k hk (fun e => hn (by simp [ownOf, ← e]))⟩
theorem own_slice {w : World} {B : Nat} {t : TypeId} {k n : Nat} {v : Value} {xs : List Value} (h : w.ownsRow B t k v n xs) : ∃ a cap, v = .slice a n cap := by
  obtain ⟨_, ⟨rfl, hn⟩ | ⟨g, cap, cur, rfl, _⟩⟩ := h
  · exact ⟨none, 0, by rw [hn]⟩
  · exact ⟨_, _, rfl⟩
theorem pairs_snoc {w : World} {B : Nat} {t : TypeId} {v : Value} {L : List (Int × Int)} {a b : Int} (h : w.ownsRow B t 2 v (L.length + 1) (flat2 L ++ [.int .i64 a, .int .i64 b])) : Pairs w B t v (L ++ [(a, b)]) := by
  unfold Pairs
  have e : flat2 (L ++ [(a, b)]) = flat2 L ++ [.int .i64 a, .int .i64 b] := by simp [flat2]
  rw [e, List.length_append]; exact h
theorem info_region : (Try.prog.info? 208).map (fun i => (i.zero, i.size, i.bytes)) = some (some (.agg #[.int .i64 0, .int .i64 0]), 2, 16) := by kernel_rfl
theorem ghold_new (B g : Nat) (w : World) (d : Int) (L : List (Int × Int)) (v : Value) (a b : Int) (h : GripAt B w g d L v) (hd : 1 ≤ d) (hm : (a, b) ∉ L) (hl : L.length < 8) :
    Calls Try.prog 43 #[.pointer (some ⟨g, 0, none⟩), .int .i64 a, .int .i64 b] w fun e w' => ∃ v', e = .returned (.int .i64 0) ∧ Upd (g :: ownOf v) w w' ∧ GripAt B w' g d (L ++ [(a, b)]) v' := by
  obtain ⟨i0, hi, hz0, hz1, hz2⟩ := info_parts info_region
  have hg := h.hg
  have hd : d ≠ 0 := by omega
  have HM := Lib.hid (decide_eq_false hm)
  clear hm
  obtain ⟨ad, cap, rfl, _⟩ := h.row.form
  have hl8 : ((L.length : Int) == 8) = false := by simp; omega
  have HL := Lib.hid hl8
  clear hl8
  have F_ := (hg).facts; simp only [blockFacts, listFacts, cellsAt, Nat.reduceAdd, and_true, true_and, and_assoc] at F_
  go_enter Try.func43, Try.ntmps43
  go_wp2_with (first
    | (go_at_call 47; refine (gholds_c B g _ d L _ a b h).mono ?_; rintro e w' ⟨rfl, hk⟩; rw [HM.out]; have hg := hg.keeps hk; have h := h.keeps hk; have hz := h.size; have hne := h.row.ne h.hg (by decide); have F_ := (hg).facts; simp only [blockFacts, listFacts, cellsAt, Nat.reduceAdd, and_true, true_and, and_assoc] at F_)
    | (at_builtin; refine wpList_append_own _ rfl (.tmp 29) (.tmp 33) 204 rfl B 208 i0 _ 2 16 Try.underlying204 hi hz0 hz1 hz2 rfl (by decide) _ _ _ rfl (World.ownsRow.alloc h.row _) ⟨w'.heap.size, 0, none⟩ 1 1 [.int .i64 a, .int .i64 b] rfl rfl (by intro j u hj; match j, hj with | 0, hj => (simp at hj; subst hj; simp [Addr.add]) | 1, hj => (simp at hj; subst hj; simp [Addr.add])) (by intro u hu; simp at hu; rcases hu with rfl | rfl <;> rfl) (by unfold maxLen; omega) (by omega) (by simp; omega) ?_; intro v1 w1 hown1 hgrow1 hnil1; have hU := Upd.of_grown hgrow1; have hgA := (hg.alloc (.cells #[.int .i64 a, .int .i64 b] 208)).upd hU (fun hx => hne _ hx rfl); have F_ := (hgA).facts; simp only [blockFacts, listFacts, cellsAt, Nat.reduceAdd, and_true, true_and, and_assoc] at F_; obtain ⟨a1, cap1, hv1⟩ := own_slice hown1; subst hv1))
  go_ret
  have hP := pairs_snoc hown1
  have hU' : Upd (ownOf (.slice ad L.length cap)) (w'.alloc (.cells #[.int .i64 a, .int .i64 b] 208)) w1 := hU
  have hu2 : Upd [g] w1 (w1.setCell ⟨g, 1, none⟩ (.slice a1 (L.length + 1) cap1)) := by (repeat (first | (with_reducible exact Upd.refl _ _) | (with_reducible assumption) | (with_reducible refine Upd.setCell ?_ (by first | (left; simp; done) | (right; go_size)) _) | (with_reducible refine Upd.alloc ?_ _) | (with_reducible refine Upd.drewN ?_ _) | (with_reducible refine Upd.drew ?_)))
  have hne1 := hP.ne hgA (by decide)
  have hsz := h.len
  exact ⟨_, rfl, (((Upd.of_keeps hk).alloc _).trans (hU'.mono (fun x hx => List.mem_cons_of_mem _ hx))).trans (hu2.mono (by simp)), by (apply Has.congr; (focus ((repeat (first | (with_reducible assumption) | (with_reducible exact Has.new _ _ _) | (with_reducible exact Has.new1 _ _ _ _) | (with_reducible exact Has.new2 _ _ _ _ _) | (with_reducible refine Has.newAt ?_; (simp; done)) | (with_reducible apply Has.set) | (with_reducible apply Has.far; (case hn => first | assumption | (simp; done) | (intro e_; simp at e_; omega))) | (with_reducible apply Has.alloc) | (with_reducible apply Has.drewN) | (with_reducible apply Has.drew) | (with_reducible refine Has.keeps ?_ (by with_reducible assumption)))))); (first | rfl | (simp; done))), hP.upd hu2 (fun x hx => by simp; exact hne1 x hx), h.le, Nat.le_trans (Nat.le_trans h.size (by simp)) (Nat.le_trans hU'.size hu2.size), by simp; omega⟩
end Go.Proofs.Ythlojiefnclgkaa
