/- What the document's answer on words computes: each function walked once. -/
import Derived.Test.YtaecapjicphdkaaGreatMg04
import Derived.Test.YtaecapjicphdkaaGreatMg01
import Derived.Deep.AppendLies
import Derived.Test.YtaecapjicphdkaaGreatMg02
import Derived.Lib.SliceRun
namespace Go.Proofs.YtaecapjicphdkaaGreat
set_option linter.unusedVariables false
set_option linter.unusedSimpArgs false
open Go Go.RowKit
set_option maxRecDepth 100000

theorem rin_c (n a b : Int) (w : World) : Calls Tryz.prog 131 #[.int .i64 n, .int .i64 a, .int .i64 b] w fun e w' => e = .returned (.bool (withinB n a b)) ∧ w = w' := by
  go_enter Tryz.func131, Tryz.ntmps131
  go_wp2
  all_goals go_ret
  · have h : decide (a ≤ n) = true := decide_eq_true (by assumption)
    exact ⟨by unfold withinB; rw [h]; rfl, rfl⟩
  · have h : decide (a ≤ n) = false := decide_eq_false (by omega)
    exact ⟨by unfold withinB; rw [h]; rfl, rfl⟩

theorem rputHead_c (i t : Int) (w : World) : Calls Tryz.prog 129 #[.agg #[.int .i64 i, .int .i64 t]] w fun e w' => e = .returned (.tuple #[.int .u64 (headI i t), .bool (headB i t)]) ∧ Keeps w w' := by
  cases h : headB i t with
  | false =>
    have e2 : headI i t = 0 := by unfold headI; rw [h]; rfl
    have h2 : ¬ ((-1 ≤ i ∧ i ≤ 4294967294) ∧ 0 ≤ t ∧ t ≤ 4294967295) := by rw [← headB_true, h]; simp
    rw [e2]
    clear e2 h
    go_enter Tryz.func129, Tryz.ntmps129
    go_wp2
    all_goals first | (exfalso; omega) | (go_ret2; exact ⟨rfl, by ((repeat' (first | (with_reducible exact Keeps.refl _) | (with_reducible assumption) | (with_reducible refine Keeps.drewN ?_ _) | (with_reducible refine Keeps.drew ?_) | (with_reducible refine Keeps.alloc ?_ _) | (with_reducible refine Keeps.setCell ?_ ?_ _) | (with_reducible refine Keeps.trans ?_ (After.keeps _)) | (with_reducible refine Keeps.trans ?_ (by with_reducible assumption)) | go_size)); (first | done | fail))⟩)
  | true =>
    have e2 : headI i t = t * 4294967296 + (i + 1) := by unfold headI; rw [h]; rfl
    obtain ⟨⟨b1, b2⟩, b3, b4⟩ := headB_true.1 h
    rw [e2]
    clear e2 h
    have b5 : i < 4294967295 := by omega
    go_enter Tryz.func129, Tryz.ntmps129
    go_wp2
    go_ret2
    exact ⟨rfl, by ((repeat' (first | (with_reducible exact Keeps.refl _) | (with_reducible assumption) | (with_reducible refine Keeps.drewN ?_ _) | (with_reducible refine Keeps.drew ?_) | (with_reducible refine Keeps.alloc ?_ _) | (with_reducible refine Keeps.setCell ?_ ?_ _) | (with_reducible refine Keeps.trans ?_ (After.keeps _)) | (with_reducible refine Keeps.trans ?_ (by with_reducible assumption)) | go_size)); (first | done | fail))⟩

theorem rgetHead_c (x : Int) (w : World) (h0 : 0 ≤ x) (h1 : x < 18446744073709551616) : Calls Tryz.prog 113 #[.int .u64 x] w fun e w' => e = .returned (.agg #[.int .i64 (x % 4294967296 - 1), .int .i64 (x / 4294967296)]) ∧ Keeps w w' := by
  have b1 : 0 ≤ x % 4294967296 ∧ x % 4294967296 < 4294967296 := by omega
  have b2 : 0 ≤ x / 4294967296 ∧ x / 4294967296 < 4294967296 := by omega
  obtain ⟨b3, b4⟩ := b1
  obtain ⟨b5, b6⟩ := b2
  go_enter Tryz.func113, Tryz.ntmps113
  go_wp2
  go_returns
  exact ⟨rfl, by ((repeat' (first | (with_reducible exact Keeps.refl _) | (with_reducible assumption) | (with_reducible refine Keeps.drewN ?_ _) | (with_reducible refine Keeps.drew ?_) | (with_reducible refine Keeps.alloc ?_ _) | (with_reducible refine Keeps.setCell ?_ ?_ _) | (with_reducible refine Keeps.trans ?_ (After.keeps _)) | (with_reducible refine Keeps.trans ?_ (by with_reducible assumption)) | go_size)); (first | done | fail))⟩

theorem rnext_c (i t x : Int) (w : World) : Calls Tryz.prog 132 #[.agg #[.int .i64 i, .int .i64 t], .int .i64 x] w fun e w' => e = .returned (.agg #[.int .i64 x, .int .i64 (tagN t)]) ∧ Keeps w w' := by
  by_cases h : 0 ≤ t ∧ t ≤ 4294967294
  · have e : tagN t = t + 1 := by unfold tagN; rw [if_pos h]
    rw [e]
    obtain ⟨b1, b2⟩ := h
    have b3 : t < 4294967295 := by omega
    clear e
    go_enter Tryz.func132, Tryz.ntmps132
    go_wp2
    go_returns
    exact ⟨rfl, by ((repeat' (first | (with_reducible exact Keeps.refl _) | (with_reducible assumption) | (with_reducible refine Keeps.drewN ?_ _) | (with_reducible refine Keeps.drew ?_) | (with_reducible refine Keeps.alloc ?_ _) | (with_reducible refine Keeps.setCell ?_ ?_ _) | (with_reducible refine Keeps.trans ?_ (After.keeps _)) | (with_reducible refine Keeps.trans ?_ (by with_reducible assumption)) | go_size)); (first | done | fail))⟩
  · have e : tagN t = 0 := by unfold tagN; rw [if_neg h]
    rw [e]
    clear e
    go_enter Tryz.func132, Tryz.ntmps132
    go_wp2
    all_goals first | (exfalso; omega) | (go_returns; exact ⟨rfl, by ((repeat' (first | (with_reducible exact Keeps.refl _) | (with_reducible assumption) | (with_reducible refine Keeps.drewN ?_ _) | (with_reducible refine Keeps.drew ?_) | (with_reducible refine Keeps.alloc ?_ _) | (with_reducible refine Keeps.setCell ?_ ?_ _) | (with_reducible refine Keeps.trans ?_ (After.keeps _)) | (with_reducible refine Keeps.trans ?_ (by with_reducible assumption)) | go_size)); (first | done | fail))⟩)

theorem rputRoot_c (g m c o : Int) (w : World) : Calls Tryz.prog 103 #[.agg #[.int .i64 g, .int .i64 m, .int .i64 c, .int .i64 o]] w fun e w' => e = .returned (.tuple #[.int .u64 (rootI g m c o), .bool (rootB g m c o)]) ∧ Keeps w w' := by
  cases h1 : withinB g 0 4294967295 with
  | false =>
    have e : rootB g m c o = false := by unfold rootB; rw [h1]; rfl
    have e2 : rootI g m c o = 0 := by unfold rootI; rw [e]; rfl
    rw [e, e2]
    have H1 := Lib.hid h1
    clear h1 e e2
    go_enter Tryz.func103, Tryz.ntmps103
    go_wp2_with (go_at_call 131; refine (rin_c _ _ _ _).mono ?_; rintro e w' ⟨rfl, rfl⟩; rw [H1.out])
    go_ret2
    exact ⟨rfl, by ((repeat' (first | (with_reducible exact Keeps.refl _) | (with_reducible assumption) | (with_reducible refine Keeps.drewN ?_ _) | (with_reducible refine Keeps.drew ?_) | (with_reducible refine Keeps.alloc ?_ _) | (with_reducible refine Keeps.setCell ?_ ?_ _) | (with_reducible refine Keeps.trans ?_ (After.keeps _)) | (with_reducible refine Keeps.trans ?_ (by with_reducible assumption)) | go_size)); (first | done | fail))⟩
  | true =>
    have H1 := Lib.hid h1
    cases h2 : withinB m 0 4097 with
    | false =>
      have e : rootB g m c o = false := by unfold rootB; rw [h1, h2]; rfl
      have e2 : rootI g m c o = 0 := by unfold rootI; rw [e]; rfl
      rw [e, e2]
      have H2 := Lib.hid h2
      clear h1 h2 e e2
      go_enter Tryz.func103, Tryz.ntmps103
      go_wp2_with (go_at_call 131; refine (rin_c _ _ _ _).mono ?_; rintro e w' ⟨rfl, rfl⟩; first | rw [H1.out] | rw [H2.out])
      go_ret2
      exact ⟨rfl, by ((repeat' (first | (with_reducible exact Keeps.refl _) | (with_reducible assumption) | (with_reducible refine Keeps.drewN ?_ _) | (with_reducible refine Keeps.drew ?_) | (with_reducible refine Keeps.alloc ?_ _) | (with_reducible refine Keeps.setCell ?_ ?_ _) | (with_reducible refine Keeps.trans ?_ (After.keeps _)) | (with_reducible refine Keeps.trans ?_ (by with_reducible assumption)) | go_size)); (first | done | fail))⟩
    | true =>
      have H2 := Lib.hid h2
      cases h3 : withinB c 0 3 with
      | false =>
        have e : rootB g m c o = false := by unfold rootB; rw [h1, h2, h3]; rfl
        have e2 : rootI g m c o = 0 := by unfold rootI; rw [e]; rfl
        rw [e, e2]
        have H3 := Lib.hid h3
        clear h1 h2 h3 e e2
        go_enter Tryz.func103, Tryz.ntmps103
        go_wp2_with (go_at_call 131; refine (rin_c _ _ _ _).mono ?_; rintro e w' ⟨rfl, rfl⟩; first | rw [H1.out] | rw [H2.out] | rw [H3.out])
        go_ret2
        exact ⟨rfl, by ((repeat' (first | (with_reducible exact Keeps.refl _) | (with_reducible assumption) | (with_reducible refine Keeps.drewN ?_ _) | (with_reducible refine Keeps.drew ?_) | (with_reducible refine Keeps.alloc ?_ _) | (with_reducible refine Keeps.setCell ?_ ?_ _) | (with_reducible refine Keeps.trans ?_ (After.keeps _)) | (with_reducible refine Keeps.trans ?_ (by with_reducible assumption)) | go_size)); (first | done | fail))⟩
      | true =>
        have H3 := Lib.hid h3
        cases h4 : withinB o 0 1024 with
        | false =>
          have e : rootB g m c o = false := by unfold rootB; rw [h1, h2, h3, h4]; rfl
          have e2 : rootI g m c o = 0 := by unfold rootI; rw [e]; rfl
          rw [e, e2]
          have H4 := Lib.hid h4
          clear h1 h2 h3 h4 e e2
          go_enter Tryz.func103, Tryz.ntmps103
          go_wp2_with (go_at_call 131; refine (rin_c _ _ _ _).mono ?_; rintro e w' ⟨rfl, rfl⟩; first | rw [H1.out] | rw [H2.out] | rw [H3.out] | rw [H4.out])
          go_ret2
          exact ⟨rfl, by ((repeat' (first | (with_reducible exact Keeps.refl _) | (with_reducible assumption) | (with_reducible refine Keeps.drewN ?_ _) | (with_reducible refine Keeps.drew ?_) | (with_reducible refine Keeps.alloc ?_ _) | (with_reducible refine Keeps.setCell ?_ ?_ _) | (with_reducible refine Keeps.trans ?_ (After.keeps _)) | (with_reducible refine Keeps.trans ?_ (by with_reducible assumption)) | go_size)); (first | done | fail))⟩
        | true =>
          have H4 := Lib.hid h4
          have e : rootB g m c o = true := by unfold rootB; rw [h1, h2, h3, h4]; rfl
          have e2 : rootI g m c o = g * 4294967296 + m * 65536 + c * 4096 + o := by unfold rootI; rw [e]; rfl
          rw [e, e2]
          obtain ⟨a1, a2⟩ := withinB_true.1 h1
          obtain ⟨a3, a4⟩ := withinB_true.1 h2
          obtain ⟨a5, a6⟩ := withinB_true.1 h3
          obtain ⟨a7, a8⟩ := withinB_true.1 h4
          clear h1 h2 h3 h4 e e2
          go_enter Tryz.func103, Tryz.ntmps103
          go_wp2_with (go_at_call 131; refine (rin_c _ _ _ _).mono ?_; rintro e w' ⟨rfl, rfl⟩; first | rw [H1.out] | rw [H2.out] | rw [H3.out] | rw [H4.out])
          go_ret2
          exact ⟨rfl, by ((repeat' (first | (with_reducible exact Keeps.refl _) | (with_reducible assumption) | (with_reducible refine Keeps.drewN ?_ _) | (with_reducible refine Keeps.drew ?_) | (with_reducible refine Keeps.alloc ?_ _) | (with_reducible refine Keeps.setCell ?_ ?_ _) | (with_reducible refine Keeps.trans ?_ (After.keeps _)) | (with_reducible refine Keeps.trans ?_ (by with_reducible assumption)) | go_size)); (first | done | fail))⟩

theorem rgetRoot_c (x : Int) (w : World) (h0 : 0 ≤ x) (h1 : x < 18446744073709551616) : Calls Tryz.prog 99 #[.int .u64 x] w fun e w' => e = .returned (.agg #[.int .i64 (x / 4294967296), .int .i64 (x / 65536 % 65536), .int .i64 (x / 4096 % 16), .int .i64 (x % 4096)]) ∧ Keeps w w' := by
  have b1 : 0 ≤ x / 4294967296 ∧ x / 4294967296 < 4294967296 := by omega
  obtain ⟨b3, b4⟩ := b1
  go_enter Tryz.func99, Tryz.ntmps99
  go_wp2
  go_returns
  exact ⟨rfl, by ((repeat' (first | (with_reducible exact Keeps.refl _) | (with_reducible assumption) | (with_reducible refine Keeps.drewN ?_ _) | (with_reducible refine Keeps.drew ?_) | (with_reducible refine Keeps.alloc ?_ _) | (with_reducible refine Keeps.setCell ?_ ?_ _) | (with_reducible refine Keeps.trans ?_ (After.keeps _)) | (with_reducible refine Keeps.trans ?_ (by with_reducible assumption)) | go_size)); (first | done | fail))⟩

theorem rlive_c (g m c o x : Int) (w : World) : Calls Tryz.prog 105 #[.agg #[.int .i64 g, .int .i64 m, .int .i64 c, .int .i64 o], .int .i64 x] w fun e w' => e = .returned (.bool (liveB g m x)) ∧ Keeps w w' := by
  go_enter Tryz.func105, Tryz.ntmps105
  go_wp2
  all_goals go_ret
  · have h : decide (1 ≤ m) = true := decide_eq_true (by assumption)
    exact ⟨by unfold liveB; rw [h]; rfl, by ((repeat' (first | (with_reducible exact Keeps.refl _) | (with_reducible assumption) | (with_reducible refine Keeps.drewN ?_ _) | (with_reducible refine Keeps.drew ?_) | (with_reducible refine Keeps.alloc ?_ _) | (with_reducible refine Keeps.setCell ?_ ?_ _) | (with_reducible refine Keeps.trans ?_ (After.keeps _)) | (with_reducible refine Keeps.trans ?_ (by with_reducible assumption)) | go_size)); (first | done | fail))⟩
  · have h : decide (1 ≤ m) = false := decide_eq_false (by omega)
    exact ⟨by unfold liveB; rw [h]; rfl, by ((repeat' (first | (with_reducible exact Keeps.refl _) | (with_reducible assumption) | (with_reducible refine Keeps.drewN ?_ _) | (with_reducible refine Keeps.drew ?_) | (with_reducible refine Keeps.alloc ?_ _) | (with_reducible refine Keeps.setCell ?_ ?_ _) | (with_reducible refine Keeps.trans ?_ (After.keeps _)) | (with_reducible refine Keeps.trans ?_ (by with_reducible assumption)) | go_size)); (first | done | fail))⟩

theorem rchunk_c (g m c o : Int) (w : World) (h1 : m ≤ 9223372036854775807) : Calls Tryz.prog 107 #[.agg #[.int .i64 g, .int .i64 m, .int .i64 c, .int .i64 o]] w fun e w' => e = .returned (.int .i64 (chunkI m)) ∧ Keeps w w' := by
  by_cases h : m < 2
  · have e : chunkI m = -1 := by unfold chunkI; rw [if_pos h]
    rw [e]
    clear e
    go_enter Tryz.func107, Tryz.ntmps107
    go_wp2
    go_ret
    exact ⟨rfl, by ((repeat' (first | (with_reducible exact Keeps.refl _) | (with_reducible assumption) | (with_reducible refine Keeps.drewN ?_ _) | (with_reducible refine Keeps.drew ?_) | (with_reducible refine Keeps.alloc ?_ _) | (with_reducible refine Keeps.setCell ?_ ?_ _) | (with_reducible refine Keeps.trans ?_ (After.keeps _)) | (with_reducible refine Keeps.trans ?_ (by with_reducible assumption)) | go_size)); (first | done | fail))⟩
  · have e : chunkI m = m - 2 := by unfold chunkI; rw [if_neg h]
    rw [e]
    clear e
    go_enter Tryz.func107, Tryz.ntmps107
    go_wp2
    go_ret
    exact ⟨rfl, by ((repeat' (first | (with_reducible exact Keeps.refl _) | (with_reducible assumption) | (with_reducible refine Keeps.drewN ?_ _) | (with_reducible refine Keeps.drew ?_) | (with_reducible refine Keeps.alloc ?_ _) | (with_reducible refine Keeps.setCell ?_ ?_ _) | (with_reducible refine Keeps.trans ?_ (After.keeps _)) | (with_reducible refine Keeps.trans ?_ (by with_reducible assumption)) | go_size)); (first | done | fail))⟩

end Go.Proofs.YtaecapjicphdkaaGreat

/- Slices of the call's own, of elements of one cell. -/
namespace Go.Proofs.YtaecapjicphdkaaGreat
set_option linter.unusedVariables false
set_option linter.unusedSimpArgs false
open Go Go.RowKit
set_option maxRecDepth 100000

/-- The block of a slice's cells. -/
def ownB (v : Value) : List Nat := v.ownBlock.toList
@[simp] theorem ownB_nil (n c : Nat) : ownB (.slice none n c) = [] := rfl
@[simp] theorem ownB_some (g o n c : Nat) (r : Option Value) : ownB (.slice (some ⟨g, o, none⟩) n c) = [g] := rfl
theorem Upd.grown {w w' : World} {v : Value} (h : w.grownBy w' v.ownBlock) : Upd (ownB v) w w' :=
  ⟨h.os, h.tape, h.output, h.size, fun k hk hn => h.block k hk (fun e => hn (by simp [ownB, ← e]))⟩
/-- A slice of the call's own (its block, if any, is B at least), its elements. -/
def Row (B : Nat) (t : TypeId) (w : World) (v : Value) (xs : List Value) : Prop := w.ownsRow B t 1 v xs.length xs
section
variable {B g : Nat} {t u : TypeId} {w w' : World} {v : Value} {xs : List Value} {S : List Nat} {cs : Array Value}
theorem Row.nil (B : Nat) (t : TypeId) (w : World) : Row B t w (.slice none 0 0) [] := World.ownsRow_nil _ _ _ _
theorem Row.form (h : Row B t w v xs) : ∃ a cap, v = .slice a xs.length cap ∧ (xs ≠ [] → ∃ b, a = some ⟨b, 0, none⟩ ∧ B ≤ b ∧ b < w.heap.size ∧ ∀ (k : Nat) x, xs[k]? = some x → w.cell? ⟨b, k, none⟩ = some x) := by
  obtain ⟨hl, ⟨rfl, hn⟩ | ⟨g, cap, cur, rfl, hB, hg, h1, h2, h3, h4⟩⟩ := h
  · exact ⟨none, 0, by rw [hn], fun h => absurd (List.length_eq_zero_iff.1 hn) h⟩
  · refine ⟨some ⟨g, 0, none⟩, cap, rfl, fun _ => ⟨g, rfl, hB, (Array.getElem?_eq_some_iff.1 hg).1, fun k x hk => ?_⟩⟩
    have hk2 := (List.getElem?_eq_some_iff.1 hk).1
    rw [← h4, List.getElem?_take_of_lt (by omega)] at hk
    simp [World.cell?, hg]
    simpa using hk
theorem Row.own (h : Row B t w v xs) : ∀ x ∈ ownB v, B ≤ x ∧ x < w.heap.size := by
  intro x hx
  exact World.ownsRow.lt h x (by simpa [ownB] using hx)
theorem Row.upd (h : Row B t w v xs) (hu : Upd S w w') (hS : ∀ x ∈ ownB v, x ∉ S) : Row B t w' v xs := by
  obtain ⟨hl, ⟨rfl, hn⟩ | ⟨g, cap, cur, rfl, hB, hg, h1⟩⟩ := h
  · exact ⟨hl, .inl ⟨rfl, hn⟩⟩
  · refine ⟨hl, .inr ⟨g, cap, cur, rfl, hB, ?_, h1⟩⟩
    rw [hu.block g (Array.getElem?_eq_some_iff.1 hg).1 (hS g (by simp [ownB, Value.ownBlock]))]
    exact hg
theorem Row.keeps (h : Row B t w v xs) (hk : Keeps w w') : Row B t w' v xs := h.upd (Upd.of_keeps (S := []) hk) (fun _ _ => by simp)
theorem Row.alloc (h : Row B t w v xs) (o : Obj) : Row B t (w.alloc o) v xs := h.keeps ((Keeps.refl w).alloc o)
theorem Row.drewN (h : Row B t w v xs) (n : Nat) : Row B t (w.drewN n) v xs := h.keeps (Keeps.of_drewN n)
theorem Row.drew (h : Row B t w v xs) : Row B t w.drew v xs := h.keeps (Keeps.refl w).drew
theorem Row.far (h : Row B t w v xs) {p : Addr} (hp : ∀ x ∈ ownB v, x ≠ p.block) (y : Value) : Row B t (w.setCell p y) v xs :=
  h.upd ((Upd.refl [p.block] w).setCell (.inl (by simp)) y) (fun x hx => by simp; exact hp x hx)
theorem Row.ne (h : Row B t w v xs) (hg : Has w g cs u) (hn : t ≠ u) : ∀ x ∈ ownB v, x ≠ g := by
  obtain ⟨hl, ⟨rfl, hn⟩ | ⟨b, cap, cur, rfl, hB, hb, h1⟩⟩ := h
  · intro x hx; simp at hx
  · intro x hx
    simp [ownB, Value.ownBlock] at hx
    subst hx
    exact Has.ne (g := x) hb hg hn
theorem Row.ne2 {B' : Nat} {v' : Value} {ys : List Value} (h : Row B t w v xs) (k : Row B' u w v' ys) (hn : t ≠ u) : ∀ x ∈ ownB v, x ∉ ownB v' := by
  obtain ⟨hl, ⟨rfl, hn⟩ | ⟨b, cap, cur, rfl, hB, hb, h1⟩⟩ := h
  · intro x hx; simp at hx
  · intro x hx hx2
    simp [ownB, Value.ownBlock] at hx
    subst hx
    exact k.ne (g := x) hb (Ne.symm hn) x hx2 rfl
theorem Row.snoc {n : Nat} {x : Value} (h : w.ownsRow B t 1 v (n + 1) (xs ++ [x])) (hn : n = xs.length) : Row B t w v (xs ++ [x]) := by
  subst hn
  unfold Row
  rw [List.length_append]
  exact h
theorem Row.of {n : Nat} (h : w.ownsRow B t 1 v n xs) (hn : n = xs.length) : Row B t w v xs := by subst hn; exact h
theorem Row.mono {B' : Nat} (h : Row B t w v xs) (hB : B' ≤ B) : Row B' t w v xs := by
  obtain ⟨hl, h | ⟨g, cap, cur, h1, h2, h3⟩⟩ := h
  · exact ⟨hl, .inl h⟩
  · exact ⟨hl, .inr ⟨g, cap, cur, h1, Nat.le_trans hB h2, h3⟩⟩
theorem own_form {k n : Nat} (h : w.ownsRow B t k v n xs) : ∃ a cap, v = .slice a n cap := by
  obtain ⟨_, ⟨rfl, hn⟩ | ⟨g, cap, cur, rfl, _⟩⟩ := h
  · exact ⟨none, 0, by rw [hn]⟩
  · exact ⟨_, _, rfl⟩
theorem own_upd {k n : Nat} (h : w.ownsRow B t k v n xs) (hu : Upd S w w') (hS : ∀ x ∈ ownB v, x ∉ S) : w'.ownsRow B t k v n xs := by
  obtain ⟨hl, ⟨rfl, hn⟩ | ⟨g, cap, cur, rfl, hB, hg, h1⟩⟩ := h
  · exact ⟨hl, .inl ⟨rfl, hn⟩⟩
  · refine ⟨hl, .inr ⟨g, cap, cur, rfl, hB, ?_, h1⟩⟩
    rw [hu.block g (Array.getElem?_eq_some_iff.1 hg).1 (hS g (by simp [ownB, Value.ownBlock]))]
    exact hg
theorem own_ne {k n : Nat} (h : w.ownsRow B t k v n xs) (hg : Has w g cs u) (hn : t ≠ u) : ∀ x ∈ ownB v, x ≠ g := by
  obtain ⟨hl, ⟨rfl, hn⟩ | ⟨b, cap, cur, rfl, hB, hb, h1⟩⟩ := h
  · intro x hx; simp at hx
  · intro x hx
    simp [ownB, Value.ownBlock] at hx
    subst hx
    exact Has.ne (g := x) hb hg hn
theorem own_lt {k n : Nat} (h : w.ownsRow B t k v n xs) : ∀ x ∈ ownB v, B ≤ x ∧ x < w.heap.size := fun x hx => World.ownsRow.lt h x (by simpa [ownB] using hx)
theorem own_keeps {k n : Nat} (h : w.ownsRow B t k v n xs) (hk : Keeps w w') : w'.ownsRow B t k v n xs := own_upd h (Upd.of_keeps (S := []) hk) (fun _ _ => by simp)
/-- One element, laid in a block of its own. -/
theorem news_one {w : World} {b : Nat} {x : Value} {t : TypeId} (h : Has w b #[x] t) : ∀ (j : Nat) y, [x][j]? = some y → w.cell? ((⟨b, 0, none⟩ : Addr).add j) = some y := by
  intro j y hj
  exact World.news_of_block h j y (by simpa using hj)
end
/-- A pointer to a block's first cell. -/
@[reducible] def ptr (g : Nat) : Value := .pointer (some ⟨g, 0, none⟩)
/-- A pointer, or nil. -/
def optr (o : Option Nat) : Value := .pointer (o.map fun g => ⟨g, 0, none⟩)
@[simp] theorem optr_none : optr none = .pointer none := rfl
@[simp] theorem optr_some (g : Nat) : optr (some g) = ptr g := rfl
/-- An array of pointers. -/
def optrs (os : List (Option Nat)) : Array Value := (os.map optr).toArray
theorem optrs_at {os : List (Option Nat)} {i : Nat} {o : Option Nat} (h : os[i]? = some o) : (optrs os)[i]? = some (optr o) := by
  simp [optrs, h]
theorem optrs_set (os : List (Option Nat)) (i : Nat) (o : Option Nat) : (optrs os).setIfInBounds i (optr o) = optrs (os.set i o) := by
  simp [optrs]
end Go.Proofs.YtaecapjicphdkaaGreat

/- slices.Clone, Index, Contains over ints. -/
namespace Go.Proofs.YtaecapjicphdkaaGreat
set_option linter.unusedVariables false
set_option linter.unusedSimpArgs false
open Go Go.RowKit
set_option maxRecDepth 100000

theorem info_int : (Tryz.prog.info? 3).map (fun i => (i.zero, i.size, i.bytes)) = some (some (.int .i64 0), 1, 8) := by kernel_rfl
/-- ints, as values. -/
@[reducible] def ivals (zs : List Int) : List Value := zs.map (.int .i64)
theorem ivals_one (zs : List Int) : ∀ u ∈ ivals zs, u.oneCell' = true := by
  intro u hu
  obtain ⟨z, _, rfl⟩ := List.mem_map.1 hu
  rfl
theorem clone_c (v : Value) (zs : List Int) (B : Nat) (w : World) (h : Reads .i64 w v zs) (hB : B ≤ w.heap.size) (hl : zs.length ≤ 1000000) :
    Calls Tryz.prog 82 #[v] w fun e w' => ∃ v', e = .returned v' ∧ Keeps w w' ∧ Row w.heap.size 3 w' v' (ivals zs) := by
  obtain ⟨i0, hi, hz0, hz1, hz2⟩ := info_parts info_int
  have qT : ∀ (w : World) (a : Option Addr) (n c n' c' : Nat), (binOp .eql 49 (.slice a n c) (.slice none n' c')).run Tryz.prog w = .ok (.bool a.isNone) w := fun w a n c n' c' => Lib.run_eql_slice_nil w _ _ a n c n' c' Tryz.underlying49
  obtain ⟨a, cap, rfl, hr⟩ := h
  cases a with
  | none =>
    have hz : zs = [] := by
      rcases zs with _ | ⟨z, zs⟩
      · rfl
      · obtain ⟨b, off, ha, _⟩ := hr (by simp); cases ha
    subst hz
    clear hr
    go_enter Tryz.func82, Tryz.ntmps82
    go_wp2
    go_ret
    exact ⟨_, rfl, by ((repeat' (first | (with_reducible exact Keeps.refl _) | (with_reducible assumption) | (with_reducible refine Keeps.drewN ?_ _) | (with_reducible refine Keeps.drew ?_) | (with_reducible refine Keeps.alloc ?_ _) | (with_reducible refine Keeps.setCell ?_ ?_ _) | (with_reducible refine Keeps.trans ?_ (After.keeps _)) | (with_reducible refine Keeps.trans ?_ (by with_reducible assumption)) | go_size)); (first | done | fail)), Row.nil _ _ _⟩
  | some ad =>
    have hn : ∀ (j : Nat) u, (ivals zs)[j]? = some u → (w.alloc (.cells #[] 3)).cell? (ad.add j) = some u := by
      intro j u hj
      have hj2 : j < zs.length := by have := (List.getElem?_eq_some_iff.1 hj).1; simpa using this
      obtain ⟨b, off, ha, hb, hc⟩ := hr (by rintro rfl; simp at hj2)
      cases ha
      rw [show (⟨b, off, none⟩ : Addr).add j = ⟨b, off + j, none⟩ by unfold Addr.add; split <;> simp_all]
      simp only [ivals, List.getElem?_map, List.getElem?_eq_getElem hj2, Option.map_some, Option.some.injEq] at hj
      rw [((Keeps.refl w).alloc _).cell hb, hc j zs[j] (List.getElem?_eq_getElem hj2), hj]
    have HN := Lib.hid hn
    clear hn hr
    have hown : (w.alloc (.cells #[] 3)).ownsRow w.heap.size 3 1 (.slice (some ⟨w.heap.size, 0, none⟩) 0 0) 0 [] :=
      ⟨rfl, .inr ⟨w.heap.size, 0, #[], rfl, Nat.le_refl _, heap_alloc_new w _, Nat.le_refl _, by simp, rfl, rfl⟩⟩
    have HO := Lib.hid hown
    clear hown
    go_enter Tryz.func82, Tryz.ntmps82
    go_wp2_with (at_builtin; refine wpList_append_own _ rfl (.tmp 5) (.tmp 6) 49 rfl w.heap.size 3 i0 _ 1 8 Tryz.underlying49 hi hz0 hz1 hz2 rfl (by decide) _ _ _ rfl HO.out ad zs.length cap (ivals zs) rfl (by simp) HN.out (ivals_one zs) (by unfold maxLen; omega) (by omega) (by simp) ?_; intro v1 w1 hown1 hgrow1 hnil1)
    go_ret
    simp only [Nat.zero_add, List.nil_append] at hown1
    have hK : Keeps (w.alloc (.cells #[] 3)) w1 ∨ True := .inr trivial
    have hU := Upd.grown hgrow1
    have hkk : Keeps w w1 := ((Keeps.refl w).alloc (.cells #[] 3)).upd hU (by simp [Act.eval])
    exact ⟨v1, rfl, hkk, Row.of hown1 (by simp)⟩
/-- Is it among them? -/
theorem index_c (v : Value) (zs : List Int) (z : Int) (w : World) (h : Reads .i64 w v zs) (hl : zs.length ≤ 1000000) :
    Calls Tryz.prog 122 #[v, .int .i64 z] w fun e w' => ∃ r : Int, e = .returned (.int .i64 r) ∧ decide (0 ≤ r) = decide (z ∈ zs) ∧ w = w' := by
  obtain ⟨ad, cap, rfl, hr⟩ := h
  have HR := Lib.hid hr
  clear hr
  go_enter Tryz.func122, Tryz.ntmps122
  go_wp2
  go_loop [8] (fun i => ∃ k : Nat, k ≤ zs.length ∧ i = .int .i64 k ∧ Hid (∀ j, j < k → zs[j]? ≠ some z)) (fun i => zs.length - (intOf i).toNat)
  case atStart => exact ⟨0, by omega, rfl, Lib.hid (fun j hj => by omega)⟩
  case round =>
    obtain ⟨k, hk, rfl, hno⟩ := hrel
    by_cases hlt : k < zs.length
    · obtain ⟨rb, off, rfl, hb, hc⟩ := HR.out (by rintro rfl; simp at hlt)
      have c1 := hc k zs[k] (List.getElem?_eq_getElem hlt)
      clear hc
      obtain ⟨y, hy⟩ : ∃ y, zs[k] = y := ⟨_, rfl⟩
      have HY := Lib.hid hy
      rw [hy] at c1
      clear hy
      by_cases hz : z = y
      · have q : (z == y) = true := by simp [hz]
        have HZ := Lib.hid hz
        clear hz
        go_wp2
        go_ret
        refine ⟨k, rfl, ?_, rfl⟩
        have hm : z ∈ zs := by rw [HZ.out, ← HY.out]; exact List.getElem_mem hlt
        simp [hm]
      · have q : (z == y) = false := by simp [hz]
        have HZ := Lib.hid hz
        clear hz
        go_wp2
        go_round
        case rel =>
          refine ⟨k + 1, by omega, by go_num, Lib.hid (fun j hj => ?_)⟩
          rcases Nat.lt_or_ge j k with h1 | h1
          · exact hno.out j h1
          · obtain rfl : j = k := by omega
            rw [List.getElem?_eq_getElem hlt, HY.out]
            intro e
            exact HZ.out (by cases e; rfl)
        case measure => simp [intOf]; omega
    · obtain rfl : k = zs.length := by omega
      go_wp2
      go_ret
      refine ⟨-1, rfl, ?_, rfl⟩
      have hm : ¬ z ∈ zs := by
        intro hm
        obtain ⟨j, hj, e⟩ := List.mem_iff_getElem.1 hm
        exact hno.out j hj (by rw [List.getElem?_eq_getElem hj, e])
      simp [hm]
theorem contains_c (v : Value) (zs : List Int) (z : Int) (w : World) (h : Reads .i64 w v zs) (hl : zs.length ≤ 1000000) :
    Calls Tryz.prog 81 #[v, .int .i64 z] w fun e w' => e = .returned (.bool (decide (z ∈ zs))) ∧ w = w' := by
  have H := Lib.hid h
  clear h
  go_enter Tryz.func81, Tryz.ntmps81
  go_wp2_with (go_at_call 122; refine (index_c v zs z _ H.out hl).mono ?_; rintro e w' ⟨r, rfl, hr, rfl⟩)
  go_ret
  exact ⟨by rw [← hr]; rfl, rfl⟩
end Go.Proofs.YtaecapjicphdkaaGreat
