/- What package cells does to a memory: each function walked once. -/
import Derived.Test.YtaecapjicphdkaaGreatMg01
import Derived.Lib.SmallJoins
import Derived.ProofKit
namespace Go.Proofs.YtaecapjicphdkaaGreat
set_option linter.unusedVariables false
set_option linter.unusedSimpArgs false
open Go Go.RowKit
set_option maxRecDepth 100000

/-- An access. -/
structure Acc where
  kind : Int
  at_ : Int
  old : Int
  new : Int
  ok : Bool
/-- The words of a memory. -/
def u64s (l : List Int) : Array Value := (l.map (Value.int .u64)).toArray
/-- The struct of a memory. -/
def cellsOf (b : Nat) (n : Nat) (c : Int) (x : Acc) : Array Value :=
  #[.slice (some ⟨b, 0, none⟩) n n, .int .i64 c, .int .i64 x.kind, .int .i64 x.at_, .int .u64 x.old, .int .u64 x.new, .bool x.ok]
theorem u64s_at {l : List Int} {i : Nat} {o : Int} (h : l[i]? = some o) : (u64s l)[i]? = some (.int .u64 o) := by
  simp [u64s, h]
theorem u64s_set (l : List Int) (i : Nat) (v : Int) : (u64s l).setIfInBounds i (.int .u64 v) = u64s (l.set i v) := by
  simp [u64s, List.map_set]

theorem stroke_c (g b : Nat) (l : List Int) (c : Int) (x : Acc) (k v : Int) (ok : Bool) (i : Nat) (o : Int) (w : World)
    (hg : Has w g (cellsOf b l.length c x) 103) (hb : Has w b (u64s l) 99) (ho : l[i]? = some o) (hl : l.length ≤ 9000000) (hc0 : 0 ≤ c) (hc : c < 4611686018427387904) :
    Calls Tryz.prog 138 #[.pointer (some ⟨g, 0, none⟩), .int .i64 k, .int .i64 i, .int .u64 v, .bool ok] w fun e w' =>
      e = .returned (.int .u64 o) ∧ Upd [g, b] w w' ∧ Has w' g (cellsOf b l.length (c + 1) ⟨k, i, o, v, ok⟩) 103 ∧ Has w' b (u64s (l.set i v)) 99 := by
  have hne := hg.ne hb (by decide)
  have hne2 : ¬ b = g := fun e => hne e.symm
  have hi : i < l.length := by
    rcases Nat.lt_or_ge i l.length with h | h
    · exact h
    · rw [List.getElem?_eq_none h] at ho; cases ho
  have hcell : w.cell? ⟨b, i, none⟩ = some (.int .u64 o) := by rw [hb.cell, u64s_at ho]
  have hfr := hb.frozen
  clear ho
  have F_ := (hg).facts; simp only [blockFacts, listFacts, cellsAt, cellsOf, Nat.reduceAdd, and_true, true_and, and_assoc] at F_
  go_enter Tryz.func138, Tryz.ntmps138
  go_wp2
  go_ret
  refine ⟨rfl, by (repeat (first | (with_reducible exact Upd.refl _ _) | (with_reducible assumption) | (with_reducible refine Upd.setCell ?_ (by first | (left; simp; done) | (right; go_size)) _) | (with_reducible refine Upd.alloc ?_ _) | (with_reducible refine Upd.drewN ?_ _) | (with_reducible refine Upd.drew ?_))), by (apply Has.congr; (focus ((repeat (first | (with_reducible assumption) | (with_reducible exact Has.new _ _ _) | (with_reducible exact Has.new1 _ _ _ _) | (with_reducible exact Has.new2 _ _ _ _ _) | (with_reducible refine Has.newAt ?_; (simp; done)) | (with_reducible apply Has.set) | (with_reducible apply Has.far; (case hn => first | assumption | (simp; done) | (intro e_; simp at e_; omega))) | (with_reducible apply Has.alloc) | (with_reducible apply Has.drewN) | (with_reducible apply Has.drew) | (with_reducible refine Has.keeps ?_ (by with_reducible assumption)))))); (first | rfl | (simp; done))), ?_⟩
  rw [← u64s_set]
  (apply Has.congr; (focus ((repeat (first | (with_reducible assumption) | (with_reducible exact Has.new _ _ _) | (with_reducible exact Has.new1 _ _ _ _) | (with_reducible exact Has.new2 _ _ _ _ _) | (with_reducible refine Has.newAt ?_; (simp; done)) | (with_reducible apply Has.set) | (with_reducible apply Has.far; (case hn => first | assumption | (simp; done) | (intro e_; simp at e_; omega))) | (with_reducible apply Has.alloc) | (with_reducible apply Has.drewN) | (with_reducible apply Has.drew) | (with_reducible refine Has.keeps ?_ (by with_reducible assumption)))))); (first | rfl | (simp; done)))

theorem get_lt {l : List Int} {i : Nat} {o : Int} (h : l[i]? = some o) : i < l.length := by
  rcases Nat.lt_or_ge i l.length with h2 | h2
  · exact h2
  · rw [List.getElem?_eq_none h2] at h; cases h
theorem set_same {l : List Int} {i : Nat} {o : Int} (h : l[i]? = some o) : l.set i o = l := by
  apply List.ext_getElem?
  intro j
  rw [List.getElem?_set]
  split
  · rename_i e; subst e; rw [h, if_pos (get_lt h)]
  · rfl

theorem clen_c (g b n : Nat) (c : Int) (x : Acc) (w : World) (hg : Has w g (cellsOf b n c x) 103) :
    Calls Tryz.prog 37 #[.pointer (some ⟨g, 0, none⟩)] w fun e w' => e = .returned (.int .i64 n) ∧ w = w' := by
  have F_ := (hg).facts; simp only [blockFacts, listFacts, cellsAt, cellsOf, Nat.reduceAdd, and_true, true_and, and_assoc] at F_
  go_enter Tryz.func37, Tryz.ntmps37
  go_wp2
  go_ret
  exact ⟨rfl, rfl⟩

theorem count_c (g b n : Nat) (c : Int) (x : Acc) (w : World) (hg : Has w g (cellsOf b n c x) 103) :
    Calls Tryz.prog 16 #[.pointer (some ⟨g, 0, none⟩)] w fun e w' => e = .returned (.int .i64 c) ∧ w = w' := by
  have F_ := (hg).facts; simp only [blockFacts, listFacts, cellsAt, cellsOf, Nat.reduceAdd, and_true, true_and, and_assoc] at F_
  go_enter Tryz.func16, Tryz.ntmps16
  go_wp2
  go_ret
  exact ⟨rfl, rfl⟩

theorem is_c (g b n : Nat) (c : Int) (x : Acc) (a : Int) (w : World) (hg : Has w g (cellsOf b n c x) 103) :
    Calls Tryz.prog 86 #[.pointer (some ⟨g, 0, none⟩), .int .i64 a] w fun e w' => e = .returned (.bool (decide (0 ≤ a) && decide (a < n))) ∧ w = w' := by
  have F_ := (hg).facts; simp only [blockFacts, listFacts, cellsAt, cellsOf, Nat.reduceAdd, and_true, true_and, and_assoc] at F_
  go_enter Tryz.func86, Tryz.ntmps86
  go_wp2
  all_goals go_ret
  · have h : decide (0 ≤ a) = true := decide_eq_true (by assumption)
    exact ⟨by rw [h]; rfl, rfl⟩
  · have h : decide (0 ≤ a) = false := decide_eq_false (by omega)
    exact ⟨by rw [h]; rfl, rfl⟩
theorem is_in (g b n : Nat) (c : Int) (x : Acc) (i : Nat) (w : World) (hg : Has w g (cellsOf b n c x) 103) (h : i < n) :
    Calls Tryz.prog 86 #[.pointer (some ⟨g, 0, none⟩), .int .i64 i] w fun e w' => e = .returned (.bool true) ∧ w = w' :=
  (is_c g b n c x i w hg).mono fun e w' ⟨he, hw⟩ => ⟨by rw [he]; simp; omega, hw⟩
theorem is_out (g b n : Nat) (c : Int) (x : Acc) (a : Int) (w : World) (hg : Has w g (cellsOf b n c x) 103) (h : a < 0 ∨ (n : Int) ≤ a) :
    Calls Tryz.prog 86 #[.pointer (some ⟨g, 0, none⟩), .int .i64 a] w fun e w' => e = .returned (.bool false) ∧ w = w' :=
  (is_c g b n c x a w hg).mono fun e w' ⟨he, hw⟩ => ⟨by rw [he]; simp; omega, hw⟩

theorem load_in (g b : Nat) (l : List Int) (c : Int) (x : Acc) (i : Nat) (o : Int) (w : World)
    (hg : Has w g (cellsOf b l.length c x) 103) (hb : Has w b (u64s l) 99) (ho : l[i]? = some o) (hl : l.length ≤ 9000000) (hc0 : 0 ≤ c) (hc : c < 4611686018427387904) :
    Calls Tryz.prog 118 #[.pointer (some ⟨g, 0, none⟩), .int .i64 i] w fun e w' =>
      e = .returned (.tuple #[.int .u64 o, .int .i64 0]) ∧ Upd [g, b] w w' ∧ Has w' g (cellsOf b l.length (c + 1) ⟨1, i, o, o, true⟩) 103 ∧ Has w' b (u64s l) 99 := by
  have hi := get_lt ho
  have hcell : w.cell? ⟨b, i, none⟩ = some (.int .u64 o) := by rw [hb.cell, u64s_at ho]
  have hset := set_same ho
  have F_ := (hg).facts; simp only [blockFacts, listFacts, cellsAt, cellsOf, Nat.reduceAdd, and_true, true_and, and_assoc] at F_
  have HO := Lib.hid ho
  have HS := Lib.hid hset
  clear ho hset
  go_enter Tryz.func118, Tryz.ntmps118
  go_wp2_with (first
    | (go_at_call 86; refine (is_in g b _ c x i _ hg hi).mono ?_; rintro e w' ⟨rfl, rfl⟩)
    | (go_at_call 138; refine (stroke_c g b l c x _ _ _ i o _ hg hb HO.out hl hc0 hc).mono ?_; rintro e w' ⟨rfl, hu, hg', hb'⟩))
  go_ret2
  rw [HS.out] at hb'
  exact ⟨rfl, hu, hg', hb'⟩

theorem load_out (g b n : Nat) (c : Int) (x : Acc) (a : Int) (w : World) (hg : Has w g (cellsOf b n c x) 103) (h : a < 0 ∨ (n : Int) ≤ a) :
    Calls Tryz.prog 118 #[.pointer (some ⟨g, 0, none⟩), .int .i64 a] w fun e w' => e = .returned (.tuple #[.int .u64 0, .int .i64 1]) ∧ w = w' := by
  have H := Lib.hid h
  clear h
  go_enter Tryz.func118, Tryz.ntmps118
  go_wp2_with (go_at_call 86; refine (is_out g b n c x a _ hg H.out).mono ?_; rintro e w' ⟨rfl, rfl⟩)
  go_ret2
  exact ⟨rfl, rfl⟩

theorem info_u64 : (Tryz.prog.info? 99).map (fun i => (i.zero, i.size, i.bytes)) = some (some (.int .u64 0), 1, 8) := by kernel_rfl
theorem make_u64 (m : Nat) (h : m ≤ 9000000) (w : World) :
    (Instr.makeSlice 98 (.int .i64 m) (.int .i64 m)).run Tryz.prog w = .ok (.slice (some ⟨w.heap.size, 0, none⟩) m m) (w.alloc (.cells (u64s (List.replicate m 0)) 99)) := by
  obtain ⟨i, hi, hzz⟩ := Option.map_eq_some_iff.1 info_u64
  simp only [Prod.mk.injEq] at hzz
  obtain ⟨hz, hs, hb⟩ := hzz
  have h1 := run_make (P := Tryz.prog) w 98 99 i (.int .u64 0) Tryz.underlying98 hi hz .i64 .i64 m m (by omega) (by omega) (by rw [hb]; omega) (by omega)
  rw [h1]
  simp only [Int.toNat_natCast, hs, Nat.mul_one]
  congr 3
  exact Array.ext (by simp [u64s, madeCells]) (fun j h1 h2 => by simp [u64s, madeCells, Value.cells, Nat.mod_one])

theorem cnew_c (n : Nat) (w : World) (h0 : 1 ≤ n) (h1 : n ≤ 8388608) :
    Calls Tryz.prog 9 #[.int .i64 n] w fun e w' => ∃ g b : Nat, e = .returned (.tuple #[.pointer (some ⟨g, 0, none⟩), .int .i64 0]) ∧ Keeps w w' ∧ w.heap.size ≤ g ∧ w.heap.size ≤ b ∧ Has w' g (cellsOf b n 0 ⟨0, 0, 0, 0, false⟩) 103 ∧ Has w' b (u64s (List.replicate n 0)) 99 := by
  have hmk := make_u64 n (by omega)
  go_enter Tryz.func9, Tryz.ntmps9
  go_wp2
  go_ret2
  exact ⟨w.heap.size + 1, w.heap.size, rfl, by ((repeat' (first | (with_reducible exact Keeps.refl _) | (with_reducible assumption) | (with_reducible refine Keeps.drewN ?_ _) | (with_reducible refine Keeps.drew ?_) | (with_reducible refine Keeps.alloc ?_ _) | (with_reducible refine Keeps.setCell ?_ ?_ _) | (with_reducible refine Keeps.trans ?_ (After.keeps _)) | (with_reducible refine Keeps.trans ?_ (by with_reducible assumption)) | go_size)); (first | done | fail)), by omega, by omega, by (apply Has.congr; (focus ((repeat (first | (with_reducible assumption) | (with_reducible exact Has.new _ _ _) | (with_reducible exact Has.new1 _ _ _ _) | (with_reducible exact Has.new2 _ _ _ _ _) | (with_reducible refine Has.newAt ?_; (simp; done)) | (with_reducible apply Has.set) | (with_reducible apply Has.far; (case hn => first | assumption | (simp; done) | (intro e_; simp at e_; omega))) | (with_reducible apply Has.alloc) | (with_reducible apply Has.drewN) | (with_reducible apply Has.drew) | (with_reducible refine Has.keeps ?_ (by with_reducible assumption)))))); (first | rfl | (simp; done))), by (apply Has.congr; (focus ((repeat (first | (with_reducible assumption) | (with_reducible exact Has.new _ _ _) | (with_reducible exact Has.new1 _ _ _ _) | (with_reducible exact Has.new2 _ _ _ _ _) | (with_reducible refine Has.newAt ?_; (simp; done)) | (with_reducible apply Has.set) | (with_reducible apply Has.far; (case hn => first | assumption | (simp; done) | (intro e_; simp at e_; omega))) | (with_reducible apply Has.alloc) | (with_reducible apply Has.drewN) | (with_reducible apply Has.drew) | (with_reducible refine Has.keeps ?_ (by with_reducible assumption)))))); (first | rfl | (simp; done)))⟩


theorem store_in (g b : Nat) (l : List Int) (c : Int) (x : Acc) (i : Nat) (o : Int) (v : Int) (w : World)
    (hg : Has w g (cellsOf b l.length c x) 103) (hb : Has w b (u64s l) 99) (ho : l[i]? = some o) (hl : l.length ≤ 9000000) (hc0 : 0 ≤ c) (hc : c < 4611686018427387904) :
    Calls Tryz.prog 124 #[.pointer (some ⟨g, 0, none⟩), .int .i64 i, .int .u64 v] w fun e w' =>
      e = .returned (.int .i64 0) ∧ Upd [g, b] w w' ∧ Has w' g (cellsOf b l.length (c + 1) ⟨2, i, o, v, true⟩) 103 ∧ Has w' b (u64s (l.set i v)) 99 := by
  have hi := get_lt ho
  have hcell : w.cell? ⟨b, i, none⟩ = some (.int .u64 o) := by rw [hb.cell, u64s_at ho]
  have hset := set_same ho
  have F_ := (hg).facts; simp only [blockFacts, listFacts, cellsAt, cellsOf, Nat.reduceAdd, and_true, true_and, and_assoc] at F_
  have HO := Lib.hid ho
  have HS := Lib.hid hset
  clear ho hset
  go_enter Tryz.func124, Tryz.ntmps124
  go_wp2_with (first
    | (go_at_call 86; refine (is_in g b _ c x i _ hg hi).mono ?_; rintro e w' ⟨rfl, rfl⟩)
    | (go_at_call 138; refine (stroke_c g b l c x _ _ _ i o _ hg hb HO.out hl hc0 hc).mono ?_; rintro e w' ⟨rfl, hu, hg', hb'⟩))
  go_ret
  exact ⟨rfl, hu, hg', hb'⟩

theorem store_out (g b n : Nat) (c : Int) (x : Acc) (a : Int) (v : Int) (w : World) (hg : Has w g (cellsOf b n c x) 103) (h : a < 0 ∨ (n : Int) ≤ a) :
    Calls Tryz.prog 124 #[.pointer (some ⟨g, 0, none⟩), .int .i64 a, .int .u64 v] w fun e w' => e = .returned (.int .i64 1) ∧ w = w' := by
  have H := Lib.hid h
  clear h
  go_enter Tryz.func124, Tryz.ntmps124
  go_wp2_with (go_at_call 86; refine (is_out g b n c x a _ hg H.out).mono ?_; rintro e w' ⟨rfl, rfl⟩)
  go_ret
  exact ⟨rfl, rfl⟩

theorem cas_eq (g b : Nat) (l : List Int) (c : Int) (x : Acc) (i : Nat) (o : Int) (v : Int) (w : World)
    (hg : Has w g (cellsOf b l.length c x) 103) (hb : Has w b (u64s l) 99) (ho : l[i]? = some o) (hl : l.length ≤ 9000000) (hc0 : 0 ≤ c) (hc : c < 4611686018427387904) :
    Calls Tryz.prog 120 #[.pointer (some ⟨g, 0, none⟩), .int .i64 i, .int .u64 o, .int .u64 v] w fun e w' =>
      e = .returned (.tuple #[.bool true, .int .i64 0]) ∧ Upd [g, b] w w' ∧ Has w' g (cellsOf b l.length (c + 1) ⟨3, i, o, v, true⟩) 103 ∧ Has w' b (u64s (l.set i v)) 99 := by
  have hi := get_lt ho
  have hcell : w.cell? ⟨b, i, none⟩ = some (.int .u64 o) := by rw [hb.cell, u64s_at ho]
  have hset := set_same ho
  have F_ := (hg).facts; simp only [blockFacts, listFacts, cellsAt, cellsOf, Nat.reduceAdd, and_true, true_and, and_assoc] at F_
  have HO := Lib.hid ho
  have HS := Lib.hid hset
  clear ho hset
  go_enter Tryz.func120, Tryz.ntmps120
  go_wp2_with (first
    | (go_at_call 86; refine (is_in g b _ c x i _ hg hi).mono ?_; rintro e w' ⟨rfl, rfl⟩)
    | (go_at_call 138; refine (stroke_c g b l c x _ _ _ i o _ hg hb HO.out hl hc0 hc).mono ?_; rintro e w' ⟨rfl, hu, hg', hb'⟩))
  go_ret2
  exact ⟨rfl, hu, hg', hb'⟩

theorem cas_ne (g b : Nat) (l : List Int) (c : Int) (x : Acc) (i : Nat) (o : Int) (q v : Int) (w : World)
    (hg : Has w g (cellsOf b l.length c x) 103) (hb : Has w b (u64s l) 99) (ho : l[i]? = some o) (hl : l.length ≤ 9000000) (hc0 : 0 ≤ c) (hc : c < 4611686018427387904) (hq : (o != q) = true) :
    Calls Tryz.prog 120 #[.pointer (some ⟨g, 0, none⟩), .int .i64 i, .int .u64 q, .int .u64 v] w fun e w' =>
      e = .returned (.tuple #[.bool false, .int .i64 0]) ∧ Upd [g, b] w w' ∧ Has w' g (cellsOf b l.length (c + 1) ⟨3, i, o, o, false⟩) 103 ∧ Has w' b (u64s l) 99 := by
  have hi := get_lt ho
  have hcell : w.cell? ⟨b, i, none⟩ = some (.int .u64 o) := by rw [hb.cell, u64s_at ho]
  have hset := set_same ho
  have F_ := (hg).facts; simp only [blockFacts, listFacts, cellsAt, cellsOf, Nat.reduceAdd, and_true, true_and, and_assoc] at F_
  have HO := Lib.hid ho
  have HS := Lib.hid hset
  clear ho hset
  go_enter Tryz.func120, Tryz.ntmps120
  go_wp2_with (first
    | (go_at_call 86; refine (is_in g b _ c x i _ hg hi).mono ?_; rintro e w' ⟨rfl, rfl⟩)
    | (go_at_call 138; refine (stroke_c g b l c x _ _ _ i o _ hg hb HO.out hl hc0 hc).mono ?_; rintro e w' ⟨rfl, hu, hg', hb'⟩))
  go_ret2
  rw [HS.out] at hb'
  exact ⟨rfl, hu, hg', hb'⟩

theorem cas_out (g b n : Nat) (c : Int) (x : Acc) (a : Int) (q v : Int) (w : World) (hg : Has w g (cellsOf b n c x) 103) (h : a < 0 ∨ (n : Int) ≤ a) :
    Calls Tryz.prog 120 #[.pointer (some ⟨g, 0, none⟩), .int .i64 a, .int .u64 q, .int .u64 v] w fun e w' => e = .returned (.tuple #[.bool false, .int .i64 1]) ∧ w = w' := by
  have H := Lib.hid h
  clear h
  go_enter Tryz.func120, Tryz.ntmps120
  go_wp2_with (go_at_call 86; refine (is_out g b n c x a _ hg H.out).mono ?_; rintro e w' ⟨rfl, rfl⟩)
  go_ret2
  exact ⟨rfl, rfl⟩

theorem peek_out (g b n : Nat) (c : Int) (x : Acc) (a : Int) (w : World) (hg : Has w g (cellsOf b n c x) 103) (h : a < 0 ∨ (n : Int) ≤ a) :
    Calls Tryz.prog 46 #[.pointer (some ⟨g, 0, none⟩), .int .i64 a] w fun e w' => e = .returned (.int .u64 0) ∧ w = w' := by
  have H := Lib.hid h
  clear h
  go_enter Tryz.func46, Tryz.ntmps46
  go_wp2_with (go_at_call 86; refine (is_out g b n c x a _ hg H.out).mono ?_; rintro e w' ⟨rfl, rfl⟩)
  go_ret
  exact ⟨rfl, rfl⟩

theorem lay_out (g b n : Nat) (c : Int) (x : Acc) (a : Int) (v : Int) (w : World) (hg : Has w g (cellsOf b n c x) 103) (h : a < 0 ∨ (n : Int) ≤ a) :
    Calls Tryz.prog 88 #[.pointer (some ⟨g, 0, none⟩), .int .i64 a, .int .u64 v] w fun e w' => e = .returned (.int .i64 1) ∧ w = w' := by
  have H := Lib.hid h
  clear h
  go_enter Tryz.func88, Tryz.ntmps88
  go_wp2_with (go_at_call 86; refine (is_out g b n c x a _ hg H.out).mono ?_; rintro e w' ⟨rfl, rfl⟩)
  go_ret
  exact ⟨rfl, rfl⟩

theorem peek_in (g b : Nat) (l : List Int) (c : Int) (x : Acc) (i : Nat) (o : Int) (w : World) (hg : Has w g (cellsOf b l.length c x) 103) (hb : Has w b (u64s l) 99) (ho : l[i]? = some o) (hl : l.length ≤ 9000000) :
    Calls Tryz.prog 46 #[.pointer (some ⟨g, 0, none⟩), .int .i64 i] w fun e w' => e = .returned (.int .u64 o) ∧ w = w' := by
  have hi := get_lt ho
  have hcell : w.cell? ⟨b, i, none⟩ = some (.int .u64 o) := by rw [hb.cell, u64s_at ho]
  have hset := set_same ho
  have F_ := (hg).facts; simp only [blockFacts, listFacts, cellsAt, cellsOf, Nat.reduceAdd, and_true, true_and, and_assoc] at F_
  have HO := Lib.hid ho
  have HS := Lib.hid hset
  clear ho hset
  go_enter Tryz.func46, Tryz.ntmps46
  go_wp2_with (go_at_call 86; refine (is_in g b _ c x i _ hg hi).mono ?_; rintro e w' ⟨rfl, rfl⟩)
  go_ret
  exact ⟨rfl, rfl⟩

theorem lay_in (g b : Nat) (l : List Int) (c : Int) (x : Acc) (i : Nat) (o : Int) (v : Int) (w : World) (hg : Has w g (cellsOf b l.length c x) 103) (hb : Has w b (u64s l) 99) (ho : l[i]? = some o) (hl : l.length ≤ 9000000) :
    Calls Tryz.prog 88 #[.pointer (some ⟨g, 0, none⟩), .int .i64 i, .int .u64 v] w fun e w' => e = .returned (.int .i64 0) ∧ Upd [b] w w' ∧ Has w' b (u64s (l.set i v)) 99 := by
  have hfr := hb.frozen
  have hi := get_lt ho
  have hcell : w.cell? ⟨b, i, none⟩ = some (.int .u64 o) := by rw [hb.cell, u64s_at ho]
  have hset := set_same ho
  have F_ := (hg).facts; simp only [blockFacts, listFacts, cellsAt, cellsOf, Nat.reduceAdd, and_true, true_and, and_assoc] at F_
  have HO := Lib.hid ho
  have HS := Lib.hid hset
  clear ho hset
  go_enter Tryz.func88, Tryz.ntmps88
  go_wp2_with (go_at_call 86; refine (is_in g b _ c x i _ hg hi).mono ?_; rintro e w' ⟨rfl, rfl⟩)
  go_ret
  refine ⟨rfl, by (repeat (first | (with_reducible exact Upd.refl _ _) | (with_reducible assumption) | (with_reducible refine Upd.setCell ?_ (by first | (left; simp; done) | (right; go_size)) _) | (with_reducible refine Upd.alloc ?_ _) | (with_reducible refine Upd.drewN ?_ _) | (with_reducible refine Upd.drew ?_))), ?_⟩
  rw [← u64s_set]
  (apply Has.congr; (focus ((repeat (first | (with_reducible assumption) | (with_reducible exact Has.new _ _ _) | (with_reducible exact Has.new1 _ _ _ _) | (with_reducible exact Has.new2 _ _ _ _ _) | (with_reducible refine Has.newAt ?_; (simp; done)) | (with_reducible apply Has.set) | (with_reducible apply Has.far; (case hn => first | assumption | (simp; done) | (intro e_; simp at e_; omega))) | (with_reducible apply Has.alloc) | (with_reducible apply Has.drewN) | (with_reducible apply Has.drew) | (with_reducible refine Has.keeps ?_ (by with_reducible assumption)))))); (first | rfl | (simp; done)))

theorem cnew_out (n : Int) (w : World) (h : n < 1 ∨ 8388608 < n) :
    Calls Tryz.prog 9 #[.int .i64 n] w fun e w' => e = .returned (.tuple #[.pointer none, .int .i64 1]) ∧ w = w' := by
  rcases h with h | h
  · go_enter Tryz.func9, Tryz.ntmps9
    go_wp2
    go_ret2
    exact ⟨rfl, rfl⟩
  · have h2 : ¬ n < 1 := by omega
    go_enter Tryz.func9, Tryz.ntmps9
    go_wp2
    go_ret2
    exact ⟨rfl, rfl⟩

end Go.Proofs.YtaecapjicphdkaaGreat

/- A memory as a list of words: what each call does to it (over the walks of CellsW). -/
namespace Go.Proofs.YtaecapjicphdkaaGreat
set_option linter.unusedVariables false
set_option linter.unusedSimpArgs false
open Go Go.RowKit
set_option maxRecDepth 100000

/-- Memory g: its words l (n of them, in block b), so many accesses, the last one. -/
structure Mem (w : World) (g b n : Nat) (l : List Int) (c : Int) (x : Acc) : Prop where
  hg : Has w g (cellsOf b n c x) 103
  hb : Has w b (u64s l) 99
  len : l.length = n
  small : n ≤ 9000000
  c0 : 0 ≤ c
  c1 : c ≤ 4611686018427387903
section
variable {w w' : World} {g b n : Nat} {l : List Int} {c : Int} {x : Acc}
theorem Mem.upd {S : List Nat} (M : Mem w g b n l c x) (h : Upd S w w') (h1 : g ∉ S) (h2 : b ∉ S) : Mem w' g b n l c x := ⟨M.hg.upd h h1, M.hb.upd h h2, M.len, M.small, M.c0, M.c1⟩
theorem Mem.keeps (M : Mem w g b n l c x) (h : Keeps w w') : Mem w' g b n l c x := ⟨M.hg.keeps h, M.hb.keeps h, M.len, M.small, M.c0, M.c1⟩
theorem Mem.drewN (M : Mem w g b n l c x) (k : Nat) : Mem (w.drewN k) g b n l c x := M.keeps (Keeps.of_drewN k)
theorem Mem.drew (M : Mem w g b n l c x) : Mem w.drew g b n l c x := M.keeps (Keeps.refl w).drew
theorem Mem.alloc (M : Mem w g b n l c x) (o : Obj) : Mem (w.alloc o) g b n l c x := M.keeps ((Keeps.refl w).alloc o)
theorem Mem.far (M : Mem w g b n l c x) {p : Addr} (h1 : g ≠ p.block) (h2 : b ≠ p.block) (u : Value) : Mem (w.setCell p u) g b n l c x := ⟨M.hg.far h1 u, M.hb.far h2 u, M.len, M.small, M.c0, M.c1⟩
theorem Mem.ne (M : Mem w g b n l c x) : g ≠ b := M.hg.ne M.hb (by decide)
theorem Mem.lt (M : Mem w g b n l c x) : g < w.heap.size ∧ b < w.heap.size := ⟨M.hg.lt, M.hb.lt⟩

theorem mload_in (M : Mem w g b n l c x) (i : Nat) {o : Int} (ho : l[i]? = some o) (hc : c < 4611686018427387903) :
    Calls Tryz.prog 118 #[.pointer (some ⟨g, 0, none⟩), .int .i64 i] w fun e w' => e = .returned (.tuple #[.int .u64 o, .int .i64 0]) ∧ Upd [g, b] w w' ∧ Mem w' g b n l (c + 1) ⟨1, i, o, o, true⟩ := by
  obtain ⟨hg, hb, rfl, hs, c0, c1⟩ := M
  exact (load_in g b l c x i o w hg hb ho (by omega) c0 (by omega)).mono fun e w' ⟨he, hu, h1, h2⟩ => ⟨he, hu, h1, h2, by simp, hs, by omega, by omega⟩
theorem mstore_in (M : Mem w g b n l c x) (i : Nat) {o : Int} (v : Int) (ho : l[i]? = some o) (hc : c < 4611686018427387903) :
    Calls Tryz.prog 124 #[.pointer (some ⟨g, 0, none⟩), .int .i64 i, .int .u64 v] w fun e w' => e = .returned (.int .i64 0) ∧ Upd [g, b] w w' ∧ Mem w' g b n (l.set i v) (c + 1) ⟨2, i, o, v, true⟩ := by
  obtain ⟨hg, hb, rfl, hs, c0, c1⟩ := M
  exact (store_in g b l c x i o v w hg hb ho (by omega) c0 (by omega)).mono fun e w' ⟨he, hu, h1, h2⟩ => ⟨he, hu, h1, h2, by simp, hs, by omega, by omega⟩
theorem mcas_eq (M : Mem w g b n l c x) (i : Nat) {o : Int} (v : Int) (ho : l[i]? = some o) (hc : c < 4611686018427387903) :
    Calls Tryz.prog 120 #[.pointer (some ⟨g, 0, none⟩), .int .i64 i, .int .u64 o, .int .u64 v] w fun e w' => e = .returned (.tuple #[.bool true, .int .i64 0]) ∧ Upd [g, b] w w' ∧ Mem w' g b n (l.set i v) (c + 1) ⟨3, i, o, v, true⟩ := by
  obtain ⟨hg, hb, rfl, hs, c0, c1⟩ := M
  exact (cas_eq g b l c x i o v w hg hb ho (by omega) c0 (by omega)).mono fun e w' ⟨he, hu, h1, h2⟩ => ⟨he, hu, h1, h2, by simp, hs, by omega, by omega⟩
theorem mcas_ne (M : Mem w g b n l c x) (i : Nat) {o : Int} (q v : Int) (ho : l[i]? = some o) (hc : c < 4611686018427387903) (hq : (o != q) = true) :
    Calls Tryz.prog 120 #[.pointer (some ⟨g, 0, none⟩), .int .i64 i, .int .u64 q, .int .u64 v] w fun e w' => e = .returned (.tuple #[.bool false, .int .i64 0]) ∧ Upd [g, b] w w' ∧ Mem w' g b n l (c + 1) ⟨3, i, o, o, false⟩ := by
  obtain ⟨hg, hb, rfl, hs, c0, c1⟩ := M
  exact (cas_ne g b l c x i o q v w hg hb ho (by omega) c0 (by omega) hq).mono fun e w' ⟨he, hu, h1, h2⟩ => ⟨he, hu, h1, h2, by simp, hs, by omega, by omega⟩
theorem mload_out (M : Mem w g b n l c x) (a : Int) (h : a < 0 ∨ (n : Int) ≤ a) :
    Calls Tryz.prog 118 #[.pointer (some ⟨g, 0, none⟩), .int .i64 a] w fun e w' => e = .returned (.tuple #[.int .u64 0, .int .i64 1]) ∧ w = w' := load_out g b n c x a w M.hg h
theorem mstore_out (M : Mem w g b n l c x) (a : Int) (v : Int) (h : a < 0 ∨ (n : Int) ≤ a) :
    Calls Tryz.prog 124 #[.pointer (some ⟨g, 0, none⟩), .int .i64 a, .int .u64 v] w fun e w' => e = .returned (.int .i64 1) ∧ w = w' := store_out g b n c x a v w M.hg h
theorem mcas_out (M : Mem w g b n l c x) (a : Int) (q v : Int) (h : a < 0 ∨ (n : Int) ≤ a) :
    Calls Tryz.prog 120 #[.pointer (some ⟨g, 0, none⟩), .int .i64 a, .int .u64 q, .int .u64 v] w fun e w' => e = .returned (.tuple #[.bool false, .int .i64 1]) ∧ w = w' := cas_out g b n c x a q v w M.hg h
theorem mpeek_out (M : Mem w g b n l c x) (a : Int) (h : a < 0 ∨ (n : Int) ≤ a) :
    Calls Tryz.prog 46 #[.pointer (some ⟨g, 0, none⟩), .int .i64 a] w fun e w' => e = .returned (.int .u64 0) ∧ w = w' := peek_out g b n c x a w M.hg h
theorem mlay_out (M : Mem w g b n l c x) (a : Int) (v : Int) (h : a < 0 ∨ (n : Int) ≤ a) :
    Calls Tryz.prog 88 #[.pointer (some ⟨g, 0, none⟩), .int .i64 a, .int .u64 v] w fun e w' => e = .returned (.int .i64 1) ∧ w = w' := lay_out g b n c x a v w M.hg h
theorem mpeek_in (M : Mem w g b n l c x) (i : Nat) {o : Int} (ho : l[i]? = some o) :
    Calls Tryz.prog 46 #[.pointer (some ⟨g, 0, none⟩), .int .i64 i] w fun e w' => e = .returned (.int .u64 o) ∧ w = w' := by
  obtain ⟨hg, hb, rfl, hs, c0, c1⟩ := M
  exact peek_in g b l c x i o w hg hb ho (by omega)
theorem mlay_in (M : Mem w g b n l c x) (i : Nat) {o : Int} (v : Int) (ho : l[i]? = some o) :
    Calls Tryz.prog 88 #[.pointer (some ⟨g, 0, none⟩), .int .i64 i, .int .u64 v] w fun e w' => e = .returned (.int .i64 0) ∧ Upd [g, b] w w' ∧ Mem w' g b n (l.set i v) c x := by
  have hne := M.ne
  obtain ⟨hg, hb, rfl, hs, c0, c1⟩ := M
  exact (lay_in g b l c x i o v w hg hb ho (by omega)).mono fun e w' ⟨he, hu, h2⟩ => ⟨he, hu.mono (by simp), hg.upd hu (by simp; exact hne), h2, by simp, hs, c0, c1⟩
theorem mload_at (M : Mem w g b n l c x) (i : Nat) {o : Int} (q : Int) (hq : q = i) (ho : l[i]? = some o) (hc : c < 4611686018427387903) :
    Calls Tryz.prog 118 #[.pointer (some ⟨g, 0, none⟩), .int .i64 q] w fun e w' => e = .returned (.tuple #[.int .u64 o, .int .i64 0]) ∧ Upd [g, b] w w' ∧ Mem w' g b n l (c + 1) ⟨1, i, o, o, true⟩ := by
  rw [hq]; exact mload_in M i ho hc
theorem mstore_at (M : Mem w g b n l c x) (i : Nat) {o : Int} (q v : Int) (hq : q = i) (ho : l[i]? = some o) (hc : c < 4611686018427387903) :
    Calls Tryz.prog 124 #[.pointer (some ⟨g, 0, none⟩), .int .i64 q, .int .u64 v] w fun e w' => e = .returned (.int .i64 0) ∧ Upd [g, b] w w' ∧ Mem w' g b n (l.set i v) (c + 1) ⟨2, i, o, v, true⟩ := by
  rw [hq]; exact mstore_in M i v ho hc
theorem mlay_at (M : Mem w g b n l c x) (i : Nat) {o : Int} (q v : Int) (hq : q = i) (ho : l[i]? = some o) :
    Calls Tryz.prog 88 #[.pointer (some ⟨g, 0, none⟩), .int .i64 q, .int .u64 v] w fun e w' => e = .returned (.int .i64 0) ∧ Upd [g, b] w w' ∧ Mem w' g b n (l.set i v) c x := by
  rw [hq]; exact mlay_in M i v ho
theorem mpeek_at (M : Mem w g b n l c x) (i : Nat) {o : Int} (q : Int) (hq : q = i) (ho : l[i]? = some o) :
    Calls Tryz.prog 46 #[.pointer (some ⟨g, 0, none⟩), .int .i64 q] w fun e w' => e = .returned (.int .u64 o) ∧ w = w' := by
  rw [hq]; exact mpeek_in M i ho
theorem mlen (M : Mem w g b n l c x) : Calls Tryz.prog 37 #[.pointer (some ⟨g, 0, none⟩)] w fun e w' => e = .returned (.int .i64 n) ∧ w = w' := clen_c g b n c x w M.hg
theorem mcount (M : Mem w g b n l c x) : Calls Tryz.prog 16 #[.pointer (some ⟨g, 0, none⟩)] w fun e w' => e = .returned (.int .i64 c) ∧ w = w' := count_c g b n c x w M.hg
theorem mnew (n : Nat) (w : World) (h0 : 1 ≤ n) (h1 : n ≤ 8388608) :
    Calls Tryz.prog 9 #[.int .i64 n] w fun e w' => ∃ g b : Nat, e = .returned (.tuple #[.pointer (some ⟨g, 0, none⟩), .int .i64 0]) ∧ Keeps w w' ∧ w.heap.size ≤ g ∧ w.heap.size ≤ b ∧ Mem w' g b n (List.replicate n 0) 0 ⟨0, 0, 0, 0, false⟩ :=
  (cnew_c n w h0 h1).mono fun e w' ⟨g, b, he, hk, h2, h3, h4, h5⟩ => ⟨g, b, he, hk, h2, h3, h4, h5, by simp, by omega, by omega, by omega⟩
theorem mnew_int (a : Int) (w : World) (h0 : 1 ≤ a) (h1 : a ≤ 8388608) :
    Calls Tryz.prog 9 #[.int .i64 a] w fun e w' => ∃ g b : Nat, e = .returned (.tuple #[.pointer (some ⟨g, 0, none⟩), .int .i64 0]) ∧ Keeps w w' ∧ w.heap.size ≤ g ∧ w.heap.size ≤ b ∧ Mem w' g b a.toNat (List.replicate a.toNat 0) 0 ⟨0, 0, 0, 0, false⟩ := by
  obtain ⟨n, rfl⟩ := Int.eq_ofNat_of_zero_le (show 0 ≤ a by omega)
  exact mnew n w (by omega) (by omega)
end

/-- A slice of integers that came in. -/
def Reads (k : IntKind) (W : World) (v : Value) (zs : List Int) : Prop :=
  ∃ a cap, v = .slice a zs.length cap ∧ (zs ≠ [] → ∃ b off, a = some ⟨b, off, none⟩ ∧ b < W.heap.size ∧ ∀ i z, zs[i]? = some z → W.cell? ⟨b, off + i, none⟩ = some (.int k z))
theorem Reads.keeps {k : IntKind} {W W' : World} {v : Value} {zs : List Int} (h : Reads k W v zs) (hk : Keeps W W') : Reads k W' v zs := by
  obtain ⟨a, cap, hv, h2⟩ := h
  refine ⟨a, cap, hv, fun hz => ?_⟩
  obtain ⟨b, off, ha, hb, hc⟩ := h2 hz
  exact ⟨b, off, ha, Nat.lt_of_lt_of_le hb hk.size, fun i z hi => by rw [hk.cell hb]; exact hc i z hi⟩

end Go.Proofs.YtaecapjicphdkaaGreat

/- What a struct of integers, by value, is as a call's argument. -/
namespace Go.Proofs.YtaecapjicphdkaaGreat
set_option linter.unusedVariables false
set_option linter.unusedSimpArgs false
open Go Go.RowKit Go.Joins Go.ChangeShapes Go.WideShapes Go.Deep

section
variable {H : Type} {enc : TypeId × Value → H} {P : Program} {w : World} {base : Nat} {spare : Nat → Bool} {held : Bool}
theorem trod_i64 {t : TypeId} {n : Nat} {v : Value} {x : DataW H × List MemPlace} (ht : P.underlying t = some (.int .i64)) (h : DataW.trod enc P w base spare held n t [v] = some x) :
    ∃ a : Int, v = .int .i64 a ∧ (Lit.int .i64 a).wf = true := by
  obtain ⟨a, e, _, wa⟩ := DataW.trod_int ht h
  exact ⟨a, by simpa using e, wa⟩
theorem open_ints2 {r : Reach} {b0 : Nat} {t : TypeId} {f0 f1 : Field} {v : Value} {d : DataW H} {p : List MemPlace} (hs : P.underlying t = some (.struct #[f0, f1])) (hone : oneCellFields P #[f0, f1] = true) (hC : P.cellsOf t = 2)
    (t0 : P.underlying f0.type = some (.int .i64)) (t1 : P.underlying f1.type = some (.int .i64))
    (hv : Value.okWide P w r b0 t v) (h : DataW.Trod enc P w base spare held t v d p) :
    ∃ a b : Int, v = .agg #[.int .i64 a, .int .i64 b] ∧ (Lit.int .i64 a).wf = true ∧ (Lit.int .i64 b).wf = true := by
  obtain ⟨v0, v1, y0, y1, n, rfl, _, _, h0, h1⟩ := open_agg2 hs hone hC hv h
  obtain ⟨a, rfl, wa⟩ := trod_i64 t0 h0
  obtain ⟨b, rfl, wb⟩ := trod_i64 t1 h1
  exact ⟨a, b, rfl, wa, wb⟩
theorem open_ints4 {r : Reach} {b0 : Nat} {t : TypeId} {f0 f1 f2 f3 : Field} {v : Value} {d : DataW H} {p : List MemPlace} (hs : P.underlying t = some (.struct #[f0, f1, f2, f3])) (hone : oneCellFields P #[f0, f1, f2, f3] = true) (hC : P.cellsOf t = 4)
    (t0 : P.underlying f0.type = some (.int .i64)) (t1 : P.underlying f1.type = some (.int .i64)) (t2 : P.underlying f2.type = some (.int .i64)) (t3 : P.underlying f3.type = some (.int .i64))
    (hv : Value.okWide P w r b0 t v) (h : DataW.Trod enc P w base spare held t v d p) :
    ∃ a b c e : Int, v = .agg #[.int .i64 a, .int .i64 b, .int .i64 c, .int .i64 e] ∧ (Lit.int .i64 a).wf = true ∧ (Lit.int .i64 b).wf = true ∧ (Lit.int .i64 c).wf = true ∧ (Lit.int .i64 e).wf = true := by
  obtain ⟨v0, v1, v2, v3, y0, y1, y2, y3, n, rfl, _, _, h0, h1, h2, h3⟩ := open_agg4 hs hone hC hv h
  obtain ⟨a, rfl, wa⟩ := trod_i64 t0 h0
  obtain ⟨b, rfl, wb⟩ := trod_i64 t1 h1
  obtain ⟨c, rfl, wc⟩ := trod_i64 t2 h2
  obtain ⟨e, rfl, we⟩ := trod_i64 t3 h3
  exact ⟨a, b, c, e, rfl, wa, wb, wc, we⟩
theorem open_ints6 {r : Reach} {b0 : Nat} {t : TypeId} {f0 f1 f2 f3 f4 f5 : Field} {v : Value} {d : DataW H} {p : List MemPlace} (hs : P.underlying t = some (.struct #[f0, f1, f2, f3, f4, f5])) (hone : oneCellFields P #[f0, f1, f2, f3, f4, f5] = true) (hC : P.cellsOf t = 6)
    (t0 : P.underlying f0.type = some (.int .i64)) (t1 : P.underlying f1.type = some (.int .i64)) (t2 : P.underlying f2.type = some (.int .i64)) (t3 : P.underlying f3.type = some (.int .i64)) (t4 : P.underlying f4.type = some (.int .i64)) (t5 : P.underlying f5.type = some (.int .i64))
    (hv : Value.okWide P w r b0 t v) (h : DataW.Trod enc P w base spare held t v d p) :
    ∃ a b c e f g : Int, v = .agg #[.int .i64 a, .int .i64 b, .int .i64 c, .int .i64 e, .int .i64 f, .int .i64 g] ∧ (Lit.int .i64 a).wf = true ∧ (Lit.int .i64 b).wf = true ∧ (Lit.int .i64 c).wf = true ∧ (Lit.int .i64 e).wf = true ∧ (Lit.int .i64 f).wf = true ∧ (Lit.int .i64 g).wf = true := by
  obtain ⟨cs, rfl, hsz⟩ := okWide_struct hs hv
  obtain ⟨l⟩ := cs
  match l, hsz.trans hC with
  | [c0, c1, c2, c3, c4, c5], _ =>
    obtain ⟨fuel, hf⟩ := h
    obtain ⟨xs, n, _, hx, _, hlen, hg⟩ := DataW.trod_struct hs hf
    obtain ⟨o0, k0⟩ := hone_of hone 0 f0 rfl
    obtain ⟨o1, k1⟩ := hone_of hone 1 f1 rfl
    obtain ⟨o2, k2⟩ := hone_of hone 2 f2 rfl
    obtain ⟨o3, k3⟩ := hone_of hone 3 f3 rfl
    obtain ⟨o4, k4⟩ := hone_of hone 4 f4 rfl
    obtain ⟨o5, k5⟩ := hone_of hone 5 f5 rfl
    match xs, hlen with
    | [y0, y1, y2, y3, y4, y5], _ =>
      obtain ⟨a, rfl, wa⟩ := trod_i64 t0 (x := y0) (n := n) (enc := enc) (w := w) (by simpa [Value.cells, o0, k0] using hg 0 f0 rfl)
      obtain ⟨b, rfl, wb⟩ := trod_i64 t1 (x := y1) (n := n) (enc := enc) (w := w) (by simpa [Value.cells, o1, k1] using hg 1 f1 rfl)
      obtain ⟨c, rfl, wc⟩ := trod_i64 t2 (x := y2) (n := n) (enc := enc) (w := w) (by simpa [Value.cells, o2, k2] using hg 2 f2 rfl)
      obtain ⟨e, rfl, we⟩ := trod_i64 t3 (x := y3) (n := n) (enc := enc) (w := w) (by simpa [Value.cells, o3, k3] using hg 3 f3 rfl)
      obtain ⟨f, rfl, wf⟩ := trod_i64 t4 (x := y4) (n := n) (enc := enc) (w := w) (by simpa [Value.cells, o4, k4] using hg 4 f4 rfl)
      obtain ⟨g, rfl, wg⟩ := trod_i64 t5 (x := y5) (n := n) (enc := enc) (w := w) (by simpa [Value.cells, o5, k5] using hg 5 f5 rfl)
      exact ⟨a, b, c, e, f, g, rfl, wa, wb, wc, we, wf, wg⟩
end
end Go.Proofs.YtaecapjicphdkaaGreat
