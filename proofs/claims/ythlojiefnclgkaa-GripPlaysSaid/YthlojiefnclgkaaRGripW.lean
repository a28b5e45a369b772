/- What the document's answer on grips does: each function walked once. -/
import Derived.Test.YthlojiefnclgkaaGripW
namespace Go.Proofs.Ythlojiefnclgkaa
set_option linter.unusedVariables false
set_option linter.unusedSimpArgs false
open Go Go.RowKit
set_option maxRecDepth 100000

/-- The document's grip: how deep, what is held. -/
structure RGripAt (B : Nat) (w : World) (g : Nat) (d : Int) (L : List (Int × Int)) (v : Value) : Prop where
  hg : Has w g #[.int .i64 d, v] 40
  row : Pairs w B 210 v L
  le : B ≤ g
  size : B ≤ w.heap.size
  len : L.length ≤ 100000
theorem RGripAt.upd {S : List Nat} {B g : Nat} {w w' : World} {d : Int} {L : List (Int × Int)} {v : Value} (h : RGripAt B w g d L v) (hu : Upd S w w') (h1 : g ∉ S) (h2 : ∀ x ∈ ownOf v, x ∉ S) : RGripAt B w' g d L v :=
  ⟨h.hg.upd hu h1, h.row.upd hu h2, h.le, Nat.le_trans h.size hu.size, h.len⟩
theorem RGripAt.keeps {B g : Nat} {w w' : World} {d : Int} {L : List (Int × Int)} {v : Value} (h : RGripAt B w g d L v) (hk : Keeps w w') : RGripAt B w' g d L v := h.upd (Upd.of_keeps (S := []) hk) (by simp) (by simp)

theorem RGripAt.set {B g : Nat} {w w' : World} {d d' : Int} {L : List (Int × Int)} {v : Value} (h : RGripAt B w g d L v) (hu : Upd [g] w w') (hg' : Has w' g #[.int .i64 d', v] 40) : RGripAt B w' g d' L v :=
  ⟨hg', h.row.upd hu (fun x hx => by simp; exact h.row.ne h.hg (by decide) x hx), h.le, Nat.le_trans h.size hu.size, h.len⟩
theorem RGripAt.none {B g : Nat} {w w' : World} {d d' : Int} {L : List (Int × Int)} {v : Value} (h : RGripAt B w g d L v) (hu : Upd [g] w w') (hg' : Has w' g #[.int .i64 d', .slice .none 0 0] 40) : RGripAt B w' g d' [] (.slice .none 0 0) :=
  ⟨hg', World.ownsRow_nil _ _ _ _, h.le, Nat.le_trans h.size hu.size, by simp⟩

theorem rgpin_c (B g : Nat) (w : World) (d : Int) (L : List (Int × Int)) (v : Value) (h : RGripAt B w g d L v) (h0 : 0 ≤ d) (h1 : d < 15) :
    Calls Try.prog 40 #[.pointer (some ⟨g, 0, none⟩)] w fun e w' => e = .returned (.tuple #[.bool (d == 0), .int .i64 0]) ∧ Upd [g] w w' ∧ RGripAt B w' g (d + 1) L v := by
  have hg := h.hg
  have F_ := (hg).facts; simp only [blockFacts, listFacts, cellsAt, Nat.reduceAdd, and_true, true_and, and_assoc] at F_
  have e1 : (d + 1 == 1) = (d == 0) := by rw [Bool.eq_iff_iff]; simp; omega
  have E1 := Lib.hid e1
  clear e1
  go_enter Try.func40, Try.ntmps40
  go_wp2
  go_ret2
  have hu : Upd [g] w (w.setCell ⟨g, 0, none⟩ (.int .i64 (d + 1))) := by (repeat (first | (with_reducible exact Upd.refl _ _) | (with_reducible assumption) | (with_reducible refine Upd.setCell ?_ (by first | (left; simp; done) | (right; go_size)) _) | (with_reducible refine Upd.alloc ?_ _) | (with_reducible refine Upd.drewN ?_ _) | (with_reducible refine Upd.drew ?_)))
  exact ⟨by rw [E1.out]; rfl, hu, h.set hu (by (apply Has.congr; (focus ((repeat (first | (with_reducible assumption) | (with_reducible exact Has.new _ _ _) | (with_reducible exact Has.new1 _ _ _ _) | (with_reducible exact Has.new2 _ _ _ _ _) | (with_reducible refine Has.newAt ?_; (simp; done)) | (with_reducible apply Has.set) | (with_reducible apply Has.far; (case hn => first | assumption | (simp; done) | (intro e_; simp at e_; omega))) | (with_reducible apply Has.alloc) | (with_reducible apply Has.drewN) | (with_reducible apply Has.drew) | (with_reducible refine Has.keeps ?_ (by with_reducible assumption)))))); (first | rfl | (simp; done))))⟩

theorem rgpin_full (B g : Nat) (w : World) (L : List (Int × Int)) (v : Value) (h : RGripAt B w g 15 L v) :
    Calls Try.prog 40 #[.pointer (some ⟨g, 0, none⟩)] w fun e w' => e = .returned (.tuple #[.bool false, .int .i64 8]) ∧ w = w' := by
  have hg := h.hg
  have F_ := (hg).facts; simp only [blockFacts, listFacts, cellsAt, Nat.reduceAdd, and_true, true_and, and_assoc] at F_
  go_enter Try.func40, Try.ntmps40
  go_wp2
  go_ret2
  exact ⟨rfl, rfl⟩

theorem rgunpin_none (B g : Nat) (w : World) (L : List (Int × Int)) (v : Value) (h : RGripAt B w g 0 L v) :
    Calls Try.prog 42 #[.pointer (some ⟨g, 0, none⟩)] w fun e w' => e = .returned (.tuple #[.bool false, .int .i64 4]) ∧ w = w' := by
  have hg := h.hg
  have F_ := (hg).facts; simp only [blockFacts, listFacts, cellsAt, Nat.reduceAdd, and_true, true_and, and_assoc] at F_
  go_enter Try.func42, Try.ntmps42
  go_wp2
  go_ret2
  exact ⟨rfl, rfl⟩
theorem rgunpin_more (B g : Nat) (w : World) (d : Int) (L : List (Int × Int)) (v : Value) (h : RGripAt B w g d L v) (h0 : 1 < d) (h1 : d ≤ 15) :
    Calls Try.prog 42 #[.pointer (some ⟨g, 0, none⟩)] w fun e w' => e = .returned (.tuple #[.bool false, .int .i64 0]) ∧ Upd [g] w w' ∧ RGripAt B w' g (d - 1) L v := by
  have hg := h.hg
  have F_ := (hg).facts; simp only [blockFacts, listFacts, cellsAt, Nat.reduceAdd, and_true, true_and, and_assoc] at F_
  have hd : d ≠ 0 := by omega
  go_enter Try.func42, Try.ntmps42
  go_wp2
  go_ret2
  have hu : Upd [g] w (w.setCell ⟨g, 0, none⟩ (.int .i64 (d - 1))) := by (repeat (first | (with_reducible exact Upd.refl _ _) | (with_reducible assumption) | (with_reducible refine Upd.setCell ?_ (by first | (left; simp; done) | (right; go_size)) _) | (with_reducible refine Upd.alloc ?_ _) | (with_reducible refine Upd.drewN ?_ _) | (with_reducible refine Upd.drew ?_)))
  exact ⟨rfl, hu, h.set hu (by (apply Has.congr; (focus ((repeat (first | (with_reducible assumption) | (with_reducible exact Has.new _ _ _) | (with_reducible exact Has.new1 _ _ _ _) | (with_reducible exact Has.new2 _ _ _ _ _) | (with_reducible refine Has.newAt ?_; (simp; done)) | (with_reducible apply Has.set) | (with_reducible apply Has.far; (case hn => first | assumption | (simp; done) | (intro e_; simp at e_; omega))) | (with_reducible apply Has.alloc) | (with_reducible apply Has.drewN) | (with_reducible apply Has.drew) | (with_reducible refine Has.keeps ?_ (by with_reducible assumption)))))); (first | rfl | (simp; done))))⟩
theorem rgunpin_last (B g : Nat) (w : World) (L : List (Int × Int)) (v : Value) (h : RGripAt B w g 1 L v) :
    Calls Try.prog 42 #[.pointer (some ⟨g, 0, none⟩)] w fun e w' => e = .returned (.tuple #[.bool true, .int .i64 0]) ∧ Upd [g] w w' ∧ RGripAt B w' g 0 [] (.slice none 0 0) := by
  have hg := h.hg
  have F_ := (hg).facts; simp only [blockFacts, listFacts, cellsAt, Nat.reduceAdd, and_true, true_and, and_assoc] at F_
  go_enter Try.func42, Try.ntmps42
  go_wp2
  go_ret2
  have hu : Upd [g] w ((w.setCell ⟨g, 0, none⟩ (.int .i64 0)).setCell ⟨g, 1, none⟩ (.slice none 0 0)) := by (repeat (first | (with_reducible exact Upd.refl _ _) | (with_reducible assumption) | (with_reducible refine Upd.setCell ?_ (by first | (left; simp; done) | (right; go_size)) _) | (with_reducible refine Upd.alloc ?_ _) | (with_reducible refine Upd.drewN ?_ _) | (with_reducible refine Upd.drew ?_)))
  exact ⟨rfl, hu, h.none hu (by (apply Has.congr; (focus ((repeat (first | (with_reducible assumption) | (with_reducible exact Has.new _ _ _) | (with_reducible exact Has.new1 _ _ _ _) | (with_reducible exact Has.new2 _ _ _ _ _) | (with_reducible refine Has.newAt ?_; (simp; done)) | (with_reducible apply Has.set) | (with_reducible apply Has.far; (case hn => first | assumption | (simp; done) | (intro e_; simp at e_; omega))) | (with_reducible apply Has.alloc) | (with_reducible apply Has.drewN) | (with_reducible apply Has.drew) | (with_reducible refine Has.keeps ?_ (by with_reducible assumption)))))); (first | rfl | (simp; done))))⟩


theorem rgholds_c (B g : Nat) (w : World) (d : Int) (L : List (Int × Int)) (v : Value) (a b : Int) (h : RGripAt B w g d L v) :
    Calls Try.prog 48 #[.pointer (some ⟨g, 0, none⟩), .int .i64 a, .int .i64 b] w fun e w' => e = .returned (.bool (decide ((a, b) ∈ L))) ∧ w = w' := by
  obtain ⟨ad, cap, rfl, hr⟩ := h.row.form
  have HR := Lib.hid hr
  clear hr
  have hg := h.hg
  have hl := h.len
  have F_ := (hg).facts; simp only [blockFacts, listFacts, cellsAt, Nat.reduceAdd, and_true, true_and, and_assoc] at F_
  go_enter Try.func48, Try.ntmps48
  go_wp2
  go_loop [7] (fun i => ∃ k : Nat, k ≤ L.length ∧ i = .int .i64 k ∧ Hid (∀ j, j < k → L[j]? ≠ some (a, b))) (fun i => L.length - (intOf i).toNat)
  case atStart => exact ⟨0, by omega, rfl, Lib.hid (fun j hj => by omega)⟩
  case round =>
    obtain ⟨k, hk, rfl, hno⟩ := hrel
    by_cases hlt : k < L.length
    · obtain ⟨rb, rfl, hb, hc⟩ := HR.out (by rintro rfl; simp at hlt)
      obtain ⟨c1, c2⟩ := hc k hlt
      clear hc
      have hno2 : ¬ L[k] = (a, b) → Hid (∀ j, j < k + 1 → L[j]? ≠ some (a, b)) := fun hne => Lib.hid (fun j hj => by
        rcases Nat.lt_or_ge j k with h1 | h1
        · exact hno.out j h1
        · obtain rfl : j = k := by omega
          rw [List.getElem?_eq_getElem hlt]
          intro e
          exact hne (by simpa using e))
      have HNO := Lib.hid hno2
      clear hno2
      by_cases e1 : L[k].1 = a
      · by_cases e2 : L[k].2 = b
        · have hm : (a, b) ∈ L := by rw [← e1, ← e2]; exact List.getElem_mem hlt
          have HD := Lib.hid (decide_eq_true hm)
          clear hm
          go_wp2
          go_ret
          exact ⟨by rw [HD.out]; rfl, rfl⟩
        · have hf : (L[k].2 == b) = false := by simpa using e2
          go_wp2
          go_round
          case rel => exact ⟨k + 1, by omega, by go_num, HNO.out (fun e => e2 (by rw [e]))⟩
          case measure => simp [intOf]; omega
      · have hf : (L[k].1 == a) = false := by simpa using e1
        go_wp2
        go_round
        case rel => exact ⟨k + 1, by omega, by go_num, HNO.out (fun e => e1 (by rw [e]))⟩
        case measure => simp [intOf]; omega
    · obtain rfl : k = L.length := by omega
      go_wp2
      go_ret
      have hm : ¬ (a, b) ∈ L := by
        intro h
        obtain ⟨j, hj, e⟩ := List.mem_iff_getElem.1 h
        exact hno.out j hj (by rw [List.getElem?_eq_getElem hj, e])
      exact ⟨by rw [decide_eq_false hm]; rfl, rfl⟩
theorem rghold_unpinned (B g : Nat) (w : World) (L : List (Int × Int)) (v : Value) (a b : Int) (h : RGripAt B w g 0 L v) :
    Calls Try.prog 44 #[.pointer (some ⟨g, 0, none⟩), .int .i64 a, .int .i64 b] w fun e w' => e = .returned (.int .i64 4) ∧ w = w' := by
  have hg := h.hg
  have F_ := (hg).facts; simp only [blockFacts, listFacts, cellsAt, Nat.reduceAdd, and_true, true_and, and_assoc] at F_
  go_enter Try.func44, Try.ntmps44
  go_wp2
  go_ret
  exact ⟨rfl, rfl⟩
theorem rghold_held (B g : Nat) (w : World) (d : Int) (L : List (Int × Int)) (v : Value) (a b : Int) (h : RGripAt B w g d L v) (hd : 1 ≤ d) (hm : (a, b) ∈ L) :
    Calls Try.prog 44 #[.pointer (some ⟨g, 0, none⟩), .int .i64 a, .int .i64 b] w fun e w' => e = .returned (.int .i64 0) ∧ w = w' := by
  have hg := h.hg
  have F_ := (hg).facts; simp only [blockFacts, listFacts, cellsAt, Nat.reduceAdd, and_true, true_and, and_assoc] at F_
  have hd : d ≠ 0 := by omega
  have HM := Lib.hid (decide_eq_true hm)
  clear hm
  go_enter Try.func44, Try.ntmps44
  go_wp2_with (go_at_call 48; refine (rgholds_c B g _ d L v a b h).mono ?_; rintro e w' ⟨rfl, rfl⟩; rw [HM.out])
  go_ret
  exact ⟨rfl, rfl⟩
theorem rghold_full (B g : Nat) (w : World) (d : Int) (L : List (Int × Int)) (v : Value) (a b : Int) (h : RGripAt B w g d L v) (hd : 1 ≤ d) (hm : (a, b) ∉ L) (hl : L.length = 8) :
    Calls Try.prog 44 #[.pointer (some ⟨g, 0, none⟩), .int .i64 a, .int .i64 b] w fun e w' => e = .returned (.int .i64 8) ∧ w = w' := by
  obtain ⟨ad, cap, rfl, _⟩ := h.row.form
  have hg := h.hg
  rw [hl] at hg
  have HL := Lib.hid hl
  have hd : d ≠ 0 := by omega
  have HM := Lib.hid (decide_eq_false hm)
  clear hm hl
  have F_ := (hg).facts; simp only [blockFacts, listFacts, cellsAt, Nat.reduceAdd, and_true, true_and, and_assoc] at F_
  go_enter Try.func44, Try.ntmps44
  go_wp2_with (go_at_call 48; refine (rgholds_c B g _ d L _ a b h).mono ?_; rintro e w' ⟨rfl, rfl⟩; rw [HM.out])
  go_ret
  exact ⟨rfl, rfl⟩
theorem Pairs.mono {w : World} {B C : Nat} {t : TypeId} {v : Value} {L : List (Int × Int)} (h : Pairs w B t v L) (hB : C ≤ B) : Pairs w C t v L := by
  obtain ⟨hl, hn | ⟨g, cap, cur, hv, hb, hr⟩⟩ := h
  · exact ⟨hl, .inl hn⟩
  · exact ⟨hl, .inr ⟨g, cap, cur, hv, Nat.le_trans hB hb, hr⟩⟩
theorem info_key : (Try.prog.info? 210).map (fun i => (i.zero, i.size, i.bytes)) = some (some (.agg #[.int .i64 0, .int .i64 0]), 2, 16) := by kernel_rfl
theorem rghold_new (B g : Nat) (w : World) (d : Int) (L : List (Int × Int)) (v : Value) (a b : Int) (h : RGripAt B w g d L v) (hd : 1 ≤ d) (hm : (a, b) ∉ L) (hl : L.length < 8) :
    Calls Try.prog 44 #[.pointer (some ⟨g, 0, none⟩), .int .i64 a, .int .i64 b] w fun e w' => ∃ v', e = .returned (.int .i64 0) ∧ Upd [g] w w' ∧ RGripAt B w' g d (L ++ [(a, b)]) v' := by
  obtain ⟨i0, hi, hz0, hz1, hz2⟩ := info_parts info_key
  have hg := h.hg
  have hd : d ≠ 0 := by omega
  have HM := Lib.hid (decide_eq_false hm)
  clear hm
  have hz := h.size
  have hl8 : ((L.length : Int) == 8) = false := by simp; omega
  rcases h.row with ⟨hlen, ⟨rfl, hn⟩ | ⟨rb, cap, cur, rfl, hB, hrb, hcap, hmax, hsz, hcur⟩⟩
  · obtain rfl : L = [] := List.length_eq_zero_iff.1 hn
    have HN := Lib.hid (World.ownsRow_nil w B 210 2)
    have F_ := (hg).facts; simp only [blockFacts, listFacts, cellsAt, Nat.reduceAdd, and_true, true_and, and_assoc] at F_
    go_enter Try.func44, Try.ntmps44
    go_wp2_with (first
      | (go_at_call 48; refine (rgholds_c B g _ d [] _ a b h).mono ?_; rintro e w' ⟨rfl, rfl⟩)
      | (at_builtin; refine wpList_append_own _ rfl (.tmp 30) (.tmp 34) 38 rfl B 210 i0 _ 2 16 Try.underlying38 hi hz0 hz1 hz2 rfl (by decide) _ _ _ rfl (World.ownsRow.alloc (World.ownsRow_nil w B 210 2) _) ⟨w.heap.size, 0, none⟩ 1 1 [.int .i64 a, .int .i64 b] rfl rfl (by intro j u hj; match j, hj with | 0, hj => (simp at hj; subst hj; simp [Addr.add]) | 1, hj => (simp at hj; subst hj; simp [Addr.add])) (by intro u hu; simp at hu; rcases hu with rfl | rfl <;> rfl) (by unfold maxLen; omega) (by omega) (by simp; omega) ?_; intro v1 w1 hown1 hgrow1 hnil1; have hU := Upd.of_grown hgrow1; have hgA := (Has.alloc hg (.cells #[.int .i64 a, .int .i64 b] 210)).upd hU (by simp [ownOf, Value.ownBlock, Act.eval]); have F_ := (hgA).facts; simp only [blockFacts, listFacts, cellsAt, Nat.reduceAdd, and_true, true_and, and_assoc] at F_; obtain ⟨a1, cap1, hv1⟩ := own_slice hown1; subst hv1))
    go_ret
    have hP := pairs_snoc (L := []) hown1
    have hU' : Upd [] (w.alloc (.cells #[.int .i64 a, .int .i64 b] 210)) w1 := hU
    have hu2 : Upd [g] w1 (w1.setCell ⟨g, 1, none⟩ (.slice a1 1 cap1)) := by (repeat (first | (with_reducible exact Upd.refl _ _) | (with_reducible assumption) | (with_reducible refine Upd.setCell ?_ (by first | (left; simp; done) | (right; go_size)) _) | (with_reducible refine Upd.alloc ?_ _) | (with_reducible refine Upd.drewN ?_ _) | (with_reducible refine Upd.drew ?_)))
    have hne1 := hP.ne hgA (by decide)
    exact ⟨_, rfl, (((Upd.refl [g] w).alloc _).trans (hU'.mono (by simp))).trans hu2, by (apply Has.congr; (focus ((repeat (first | (with_reducible assumption) | (with_reducible exact Has.new _ _ _) | (with_reducible exact Has.new1 _ _ _ _) | (with_reducible exact Has.new2 _ _ _ _ _) | (with_reducible refine Has.newAt ?_; (simp; done)) | (with_reducible apply Has.set) | (with_reducible apply Has.far; (case hn => first | assumption | (simp; done) | (intro e_; simp at e_; omega))) | (with_reducible apply Has.alloc) | (with_reducible apply Has.drewN) | (with_reducible apply Has.drew) | (with_reducible refine Has.keeps ?_ (by with_reducible assumption)))))); (first | rfl | (simp; done))), hP.upd hu2 (fun x hx => by simp; exact hne1 x hx), h.le, Nat.le_trans (Nat.le_trans h.size (by simp)) (Nat.le_trans hU'.size hu2.size), by simp⟩
  · have hP0 : w.ownsRow B 210 2 (.slice (some ⟨rb, 0, none⟩) L.length cap) L.length (flat2 L) := ⟨hlen, .inr ⟨rb, cap, cur, rfl, hB, hrb, hcap, hmax, hsz, hcur⟩⟩
    have hcl := World.ownsRow.cells hP0 (g := rb) rfl
    have HC := Lib.hid hcl
    have HI := Lib.hid hi
    clear hi
    clear hcl
    have HL := Lib.hid hl8
    have hsz := h.len
    have F_ := (hg).facts; simp only [blockFacts, listFacts, cellsAt, Nat.reduceAdd, and_true, true_and, and_assoc] at F_
    go_enter Try.func44, Try.ntmps44
    go_wp2_with (first
      | (go_at_call 48; refine (rgholds_c B g _ d L _ a b h).mono ?_; rintro e w' ⟨rfl, rfl⟩; rw [HM.out])
      | (at_builtin; refine wpList_append_own _ rfl (.const (.slice none 0 0)) (.tmp 29) 38 rfl w.heap.size 210 i0 _ 2 16 Try.underlying38 HI.out hz0 hz1 hz2 rfl (by decide) _ _ _ (by rfl) (World.ownsRow_nil w w.heap.size 210 2) ⟨rb, 0, none⟩ L.length cap (flat2 L) (by rfl) hlen HC.out (by intro u hu; simp [flat2] at hu; obtain ⟨p, q, _, rfl | rfl⟩ := hu <;> rfl) (by unfold maxLen; omega) (by omega) (by omega) ?_; intro v0 w0 hown0 hgrow0 hnil0; simp only [Nat.zero_add, List.nil_append] at hown0; have hU0 := Upd.of_grown hgrow0; have hsz0 := hU0.size; have hg0 := hg.upd hU0 (by simp [ownOf, Value.ownBlock, Act.eval]); have F_ := (hg0).facts; simp only [blockFacts, listFacts, cellsAt, Nat.reduceAdd, and_true, true_and, and_assoc] at F_; obtain ⟨a0, cap0, hv0⟩ := own_slice hown0; subst hv0; have hne0 := Pairs.ne (L := L) (by simpa [Pairs] using hown0) hg0 (by decide))
      | (at_builtin; refine wpList_append_own _ rfl (.tmp 30) (.tmp 34) 38 rfl w.heap.size 210 i0 _ 2 16 Try.underlying38 HI.out hz0 hz1 hz2 rfl (by decide) _ _ _ (by rfl) (World.ownsRow.alloc hown0 _) ⟨w0.heap.size, 0, none⟩ 1 1 [.int .i64 a, .int .i64 b] (by rfl) rfl (by intro j u hj; match j, hj with | 0, hj => (simp at hj; subst hj; simp [Addr.add]) | 1, hj => (simp at hj; subst hj; simp [Addr.add])) (by intro u hu; simp at hu; rcases hu with rfl | rfl <;> rfl) (by unfold maxLen; omega) (by omega) (by simp; omega) ?_; intro v1 w1 hown1 hgrow1 hnil1; have hU := Upd.of_grown hgrow1; have hgA := (Has.alloc hg0 (.cells #[.int .i64 a, .int .i64 b] 210)).upd hU (fun hx => hne0 _ hx rfl); have F_ := (hgA).facts; simp only [blockFacts, listFacts, cellsAt, Nat.reduceAdd, and_true, true_and, and_assoc] at F_; obtain ⟨a1, cap1, hv1⟩ := own_slice hown1; subst hv1))
    go_ret
    have hP := pairs_snoc hown1
    have hP0 : Pairs w0 w.heap.size 210 (.slice a0 L.length cap0) L := hown0
    have hU' : Upd (ownOf (.slice a0 L.length cap0)) (w0.alloc (.cells #[.int .i64 a, .int .i64 b] 210)) w1 := hU
    have hu2 : Upd [g] w1 (w1.setCell ⟨g, 1, none⟩ (.slice a1 (L.length + 1) cap1)) := by (repeat (first | (with_reducible exact Upd.refl _ _) | (with_reducible assumption) | (with_reducible refine Upd.setCell ?_ (by first | (left; simp; done) | (right; go_size)) _) | (with_reducible refine Upd.alloc ?_ _) | (with_reducible refine Upd.drewN ?_ _) | (with_reducible refine Upd.drew ?_)))
    have hne1 := hP.ne hgA (by decide)
    have hU0' : Upd [] w w0 := hU0
    have K1 : Keeps w w1 := (hU0'.keeps.alloc _).upd hU' (fun x hx => (hP0.own x hx).1)
    exact ⟨rfl, (Upd.of_keeps K1).trans hu2, _, by (apply Has.congr; (focus ((repeat (first | (with_reducible assumption) | (with_reducible exact Has.new _ _ _) | (with_reducible exact Has.new1 _ _ _ _) | (with_reducible exact Has.new2 _ _ _ _ _) | (with_reducible refine Has.newAt ?_; (simp; done)) | (with_reducible apply Has.set) | (with_reducible apply Has.far; (case hn => first | assumption | (simp; done) | (intro e_; simp at e_; omega))) | (with_reducible apply Has.alloc) | (with_reducible apply Has.drewN) | (with_reducible apply Has.drew) | (with_reducible refine Has.keeps ?_ (by with_reducible assumption)))))); (first | rfl | (simp; done))), (hP.mono hz).upd hu2 (fun x hx => by simp; exact hne1 x hx), h.le, Nat.le_trans hz (Nat.le_trans K1.size hu2.size), by simp; omega⟩
end Go.Proofs.Ythlojiefnclgkaa
