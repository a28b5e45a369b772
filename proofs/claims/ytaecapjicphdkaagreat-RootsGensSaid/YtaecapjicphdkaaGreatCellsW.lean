/- What package cells does to a memory: each function walked once. -/
import Derived.Test.YtaecapjicphdkaaGreatHeap
namespace Go.Proofs.YtaecapjicphdkaaGreat
set_option linter.unusedVariables false
set_option linter.unusedSimpArgs false
open Go Go.RowKit
set_option maxRecDepth 100000

/-- An access. -/
structure Acc where
  kind : Int
  at_ : Int
  old : Int
  new : Int
  ok : Bool
/-- The words of a memory. -/
def u64s (l : List Int) : Array Value := (l.map (Value.int .u64)).toArray
/-- The struct of a memory. -/
def cellsOf (b : Nat) (n : Nat) (c : Int) (x : Acc) : Array Value :=
  #[.slice (some ⟨b, 0, none⟩) n n, .int .i64 c, .int .i64 x.kind, .int .i64 x.at_, .int .u64 x.old, .int .u64 x.new, .bool x.ok]
theorem u64s_at {l : List Int} {i : Nat} {o : Int} (h : l[i]? = some o) : (u64s l)[i]? = some (.int .u64 o) := by
  simp [u64s, h]
theorem u64s_set (l : List Int) (i : Nat) (v : Int) : (u64s l).setIfInBounds i (.int .u64 v) = u64s (l.set i v) := by
  simp [u64s, List.map_set]

theorem stroke_c (g b : Nat) (l : List Int) (c : Int) (x : Acc) (k v : Int) (ok : Bool) (i : Nat) (o : Int) (w : World)
    (hg : Has w g (cellsOf b l.length c x) 103) (hb : Has w b (u64s l) 99) (ho : l[i]? = some o) (hl : l.length ≤ 9000000) (hc0 : 0 ≤ c) (hc : c < 4611686018427387904) :
    Calls Tryz.prog 138 #[.pointer (some ⟨g, 0, none⟩), .int .i64 k, .int .i64 i, .int .u64 v, .bool ok] w fun e w' =>
      e = .returned (.int .u64 o) ∧ Upd [g, b] w w' ∧ Has w' g (cellsOf b l.length (c + 1) ⟨k, i, o, v, ok⟩) 103 ∧ Has w' b (u64s (l.set i v)) 99 := by
  have hne := hg.ne hb (by decide)
  have hne2 : ¬ b = g := fun e => hne e.symm
  have hi : i < l.length := by
    rcases Nat.lt_or_ge i l.length with h | h
    · exact h
    · rw [List.getElem?_eq_none h] at ho; cases ho
  have hcell : w.cell? ⟨b, i, none⟩ = some (.int .u64 o) := by rw [hb.cell, u64s_at ho]
  have hfr := hb.frozen
  clear ho
  have F_ := (hg).facts; simp only [blockFacts, listFacts, cellsAt, cellsOf, Nat.reduceAdd, and_true, true_and, and_assoc] at F_
  go_enter Tryz.func138, Tryz.ntmps138
  go_wp2
  go_ret
  refine ⟨rfl, by (repeat (first | (with_reducible exact Upd.refl _ _) | (with_reducible assumption) | (with_reducible refine Upd.setCell ?_ (by first | (left; simp; done) | (right; go_size)) _) | (with_reducible refine Upd.alloc ?_ _) | (with_reducible refine Upd.drewN ?_ _) | (with_reducible refine Upd.drew ?_))), by (apply Has.congr; (focus ((repeat (first | (with_reducible assumption) | (with_reducible exact Has.new _ _ _) | (with_reducible exact Has.new1 _ _ _ _) | (with_reducible exact Has.new2 _ _ _ _ _) | (with_reducible refine Has.newAt ?_; (simp; done)) | (with_reducible apply Has.set) | (with_reducible apply Has.far; (case hn => first | assumption | (simp; done) | (intro e_; simp at e_; omega))) | (with_reducible apply Has.alloc) | (with_reducible apply Has.drewN) | (with_reducible apply Has.drew) | (with_reducible refine Has.keeps ?_ (by with_reducible assumption)))))); (first | rfl | (simp; done))), ?_⟩
  rw [← u64s_set]
  (apply Has.congr; (focus ((repeat (first | (with_reducible assumption) | (with_reducible exact Has.new _ _ _) | (with_reducible exact Has.new1 _ _ _ _) | (with_reducible exact Has.new2 _ _ _ _ _) | (with_reducible refine Has.newAt ?_; (simp; done)) | (with_reducible apply Has.set) | (with_reducible apply Has.far; (case hn => first | assumption | (simp; done) | (intro e_; simp at e_; omega))) | (with_reducible apply Has.alloc) | (with_reducible apply Has.drewN) | (with_reducible apply Has.drew) | (with_reducible refine Has.keeps ?_ (by with_reducible assumption)))))); (first | rfl | (simp; done)))

theorem get_lt {l : List Int} {i : Nat} {o : Int} (h : l[i]? = some o) : i < l.length := by
  rcases Nat.lt_or_ge i l.length with h2 | h2
  · exact h2
  · rw [List.getElem?_eq_none h2] at h; cases h
theorem set_same {l : List Int} {i : Nat} {o : Int} (h : l[i]? = some o) : l.set i o = l := by
  apply List.ext_getElem?
  intro j
  rw [List.getElem?_set]
  split
  · rename_i e; subst e; rw [h, if_pos (get_lt h)]
  · rfl

theorem clen_c (g b n : Nat) (c : Int) (x : Acc) (w : World) (hg : Has w g (cellsOf b n c x) 103) :
    Calls Tryz.prog 37 #[.pointer (some ⟨g, 0, none⟩)] w fun e w' => e = .returned (.int .i64 n) ∧ w = w' := by
  have F_ := (hg).facts; simp only [blockFacts, listFacts, cellsAt, cellsOf, Nat.reduceAdd, and_true, true_and, and_assoc] at F_
  go_enter Tryz.func37, Tryz.ntmps37
  go_wp2
  go_ret
  exact ⟨rfl, rfl⟩

theorem count_c (g b n : Nat) (c : Int) (x : Acc) (w : World) (hg : Has w g (cellsOf b n c x) 103) :
    Calls Tryz.prog 16 #[.pointer (some ⟨g, 0, none⟩)] w fun e w' => e = .returned (.int .i64 c) ∧ w = w' := by
  have F_ := (hg).facts; simp only [blockFacts, listFacts, cellsAt, cellsOf, Nat.reduceAdd, and_true, true_and, and_assoc] at F_
  go_enter Tryz.func16, Tryz.ntmps16
  go_wp2
  go_ret
  exact ⟨rfl, rfl⟩

theorem is_c (g b n : Nat) (c : Int) (x : Acc) (a : Int) (w : World) (hg : Has w g (cellsOf b n c x) 103) :
    Calls Tryz.prog 86 #[.pointer (some ⟨g, 0, none⟩), .int .i64 a] w fun e w' => e = .returned (.bool (decide (0 ≤ a) && decide (a < n))) ∧ w = w' := by
  have F_ := (hg).facts; simp only [blockFacts, listFacts, cellsAt, cellsOf, Nat.reduceAdd, and_true, true_and, and_assoc] at F_
  go_enter Tryz.func86, Tryz.ntmps86
  go_wp2
  all_goals go_ret
  · have h : decide (0 ≤ a) = true := decide_eq_true (by assumption)
    exact ⟨by rw [h]; rfl, rfl⟩
  · have h : decide (0 ≤ a) = false := decide_eq_false (by omega)
    exact ⟨by rw [h]; rfl, rfl⟩
theorem is_in (g b n : Nat) (c : Int) (x : Acc) (i : Nat) (w : World) (hg : Has w g (cellsOf b n c x) 103) (h : i < n) :
    Calls Tryz.prog 86 #[.pointer (some ⟨g, 0, none⟩), .int .i64 i] w fun e w' => e = .returned (.bool true) ∧ w = w' :=
  (is_c g b n c x i w hg).mono fun e w' ⟨he, hw⟩ => ⟨by rw [he]; simp; omega, hw⟩
theorem is_out (g b n : Nat) (c : Int) (x : Acc) (a : Int) (w : World) (hg : Has w g (cellsOf b n c x) 103) (h : a < 0 ∨ (n : Int) ≤ a) :
    Calls Tryz.prog 86 #[.pointer (some ⟨g, 0, none⟩), .int .i64 a] w fun e w' => e = .returned (.bool false) ∧ w = w' :=
  (is_c g b n c x a w hg).mono fun e w' ⟨he, hw⟩ => ⟨by rw [he]; simp; omega, hw⟩

theorem load_in (g b : Nat) (l : List Int) (c : Int) (x : Acc) (i : Nat) (o : Int) (w : World)
    (hg : Has w g (cellsOf b l.length c x) 103) (hb : Has w b (u64s l) 99) (ho : l[i]? = some o) (hl : l.length ≤ 9000000) (hc0 : 0 ≤ c) (hc : c < 4611686018427387904) :
    Calls Tryz.prog 118 #[.pointer (some ⟨g, 0, none⟩), .int .i64 i] w fun e w' =>
      e = .returned (.tuple #[.int .u64 o, .int .i64 0]) ∧ Upd [g, b] w w' ∧ Has w' g (cellsOf b l.length (c + 1) ⟨1, i, o, o, true⟩) 103 ∧ Has w' b (u64s l) 99 := by
  have hi := get_lt ho
  have hcell : w.cell? ⟨b, i, none⟩ = some (.int .u64 o) := by rw [hb.cell, u64s_at ho]
  have hset := set_same ho
  have F_ := (hg).facts; simp only [blockFacts, listFacts, cellsAt, cellsOf, Nat.reduceAdd, and_true, true_and, and_assoc] at F_
  have HO := Lib.hid ho
  have HS := Lib.hid hset
  clear ho hset
  go_enter Tryz.func118, Tryz.ntmps118
  go_wp2_with (first
    | (go_at_call 86; refine (is_in g b _ c x i _ hg hi).mono ?_; rintro e w' ⟨rfl, rfl⟩)
    | (go_at_call 138; refine (stroke_c g b l c x _ _ _ i o _ hg hb HO.out hl hc0 hc).mono ?_; rintro e w' ⟨rfl, hu, hg', hb'⟩))
  go_ret2
  rw [HS.out] at hb'
  exact ⟨rfl, hu, hg', hb'⟩

theorem load_out (g b n : Nat) (c : Int) (x : Acc) (a : Int) (w : World) (hg : Has w g (cellsOf b n c x) 103) (h : a < 0 ∨ (n : Int) ≤ a) :
    Calls Tryz.prog 118 #[.pointer (some ⟨g, 0, none⟩), .int .i64 a] w fun e w' => e = .returned (.tuple #[.int .u64 0, .int .i64 1]) ∧ w = w' := by
  have H := Lib.hid h
  clear h
  go_enter Tryz.func118, Tryz.ntmps118
  go_wp2_with (go_at_call 86; refine (is_out g b n c x a _ hg H.out).mono ?_; rintro e w' ⟨rfl, rfl⟩)
  go_ret2
  exact ⟨rfl, rfl⟩

theorem info_u64 : (Tryz.prog.info? 99).map (fun i => (i.zero, i.size, i.bytes)) = some (some (.int .u64 0), 1, 8) := by kernel_rfl
theorem make_u64 (m : Nat) (h : m ≤ 9000000) (w : World) :
    (Instr.makeSlice 98 (.int .i64 m) (.int .i64 m)).run Tryz.prog w = .ok (.slice (some ⟨w.heap.size, 0, none⟩) m m) (w.alloc (.cells (u64s (List.replicate m 0)) 99)) := by
  obtain ⟨i, hi, hzz⟩ := Option.map_eq_some_iff.1 info_u64
  simp only [Prod.mk.injEq] at hzz
  obtain ⟨hz, hs, hb⟩ := hzz
  have h1 := run_make (P := Tryz.prog) w 98 99 i (.int .u64 0) Tryz.underlying98 hi hz .i64 .i64 m m (by omega) (by omega) (by rw [hb]; omega) (by omega)
  rw [h1]
  simp only [Int.toNat_natCast, hs, Nat.mul_one]
  congr 3
  exact Array.ext (by simp [u64s, madeCells]) (fun j h1 h2 => by simp [u64s, madeCells, Value.cells, Nat.mod_one])

theorem cnew_c (n : Nat) (w : World) (h0 : 1 ≤ n) (h1 : n ≤ 8388608) :
    Calls Tryz.prog 9 #[.int .i64 n] w fun e w' => ∃ g b : Nat, e = .returned (.tuple #[.pointer (some ⟨g, 0, none⟩), .int .i64 0]) ∧ Keeps w w' ∧ w.heap.size ≤ g ∧ w.heap.size ≤ b ∧ Has w' g (cellsOf b n 0 ⟨0, 0, 0, 0, false⟩) 103 ∧ Has w' b (u64s (List.replicate n 0)) 99 := by
  have hmk := make_u64 n (by omega)
  go_enter Tryz.func9, Tryz.ntmps9
  go_wp2
  go_ret2
  exact ⟨w.heap.size + 1, w.heap.size, rfl, by ((repeat' (first | (with_reducible exact Keeps.refl _) | (with_reducible assumption) | (with_reducible refine Keeps.drewN ?_ _) | (with_reducible refine Keeps.drew ?_) | (with_reducible refine Keeps.alloc ?_ _) | (with_reducible refine Keeps.setCell ?_ ?_ _) | (with_reducible refine Keeps.trans ?_ (After.keeps _)) | (with_reducible refine Keeps.trans ?_ (by with_reducible assumption)) | go_size)); (first | done | fail)), by omega, by omega, by (apply Has.congr; (focus ((repeat (first | (with_reducible assumption) | (with_reducible exact Has.new _ _ _) | (with_reducible exact Has.new1 _ _ _ _) | (with_reducible exact Has.new2 _ _ _ _ _) | (with_reducible refine Has.newAt ?_; (simp; done)) | (with_reducible apply Has.set) | (with_reducible apply Has.far; (case hn => first | assumption | (simp; done) | (intro e_; simp at e_; omega))) | (with_reducible apply Has.alloc) | (with_reducible apply Has.drewN) | (with_reducible apply Has.drew) | (with_reducible refine Has.keeps ?_ (by with_reducible assumption)))))); (first | rfl | (simp; done))), by (apply Has.congr; (focus ((repeat (first | (with_reducible assumption) | (with_reducible exact Has.new _ _ _) | (with_reducible exact Has.new1 _ _ _ _) | (with_reducible exact Has.new2 _ _ _ _ _) | (with_reducible refine Has.newAt ?_; (simp; done)) | (with_reducible apply Has.set) | (with_reducible apply Has.far; (case hn => first | assumption | (simp; done) | (intro e_; simp at e_; omega))) | (with_reducible apply Has.alloc) | (with_reducible apply Has.drewN) | (with_reducible apply Has.drew) | (with_reducible refine Has.keeps ?_ (by with_reducible assumption)))))); (first | rfl | (simp; done)))⟩


theorem store_in (g b : Nat) (l : List Int) (c : Int) (x : Acc) (i : Nat) (o : Int) (v : Int) (w : World)
    (hg : Has w g (cellsOf b l.length c x) 103) (hb : Has w b (u64s l) 99) (ho : l[i]? = some o) (hl : l.length ≤ 9000000) (hc0 : 0 ≤ c) (hc : c < 4611686018427387904) :
    Calls Tryz.prog 124 #[.pointer (some ⟨g, 0, none⟩), .int .i64 i, .int .u64 v] w fun e w' =>
      e = .returned (.int .i64 0) ∧ Upd [g, b] w w' ∧ Has w' g (cellsOf b l.length (c + 1) ⟨2, i, o, v, true⟩) 103 ∧ Has w' b (u64s (l.set i v)) 99 := by
  have hi := get_lt ho
  have hcell : w.cell? ⟨b, i, none⟩ = some (.int .u64 o) := by rw [hb.cell, u64s_at ho]
  have hset := set_same ho
  have F_ := (hg).facts; simp only [blockFacts, listFacts, cellsAt, cellsOf, Nat.reduceAdd, and_true, true_and, and_assoc] at F_
  have HO := Lib.hid ho
  have HS := Lib.hid hset
  clear ho hset
  go_enter Tryz.func124, Tryz.ntmps124
  go_wp2_with (first
    | (go_at_call 86; refine (is_in g b _ c x i _ hg hi).mono ?_; rintro e w' ⟨rfl, rfl⟩)
    | (go_at_call 138; refine (stroke_c g b l c x _ _ _ i o _ hg hb HO.out hl hc0 hc).mono ?_; rintro e w' ⟨rfl, hu, hg', hb'⟩))
  go_ret
  exact ⟨rfl, hu, hg', hb'⟩

theorem store_out (g b n : Nat) (c : Int) (x : Acc) (a : Int) (v : Int) (w : World) (hg : Has w g (cellsOf b n c x) 103) (h : a < 0 ∨ (n : Int) ≤ a) :
    Calls Tryz.prog 124 #[.pointer (some ⟨g, 0, none⟩), .int .i64 a, .int .u64 v] w fun e w' => e = .returned (.int .i64 1) ∧ w = w' := by
  have H := Lib.hid h
  clear h
  go_enter Tryz.func124, Tryz.ntmps124
  go_wp2_with (go_at_call 86; refine (is_out g b n c x a _ hg H.out).mono ?_; rintro e w' ⟨rfl, rfl⟩)
  go_ret
  exact ⟨rfl, rfl⟩

theorem cas_eq (g b : Nat) (l : List Int) (c : Int) (x : Acc) (i : Nat) (o : Int) (v : Int) (w : World)
    (hg : Has w g (cellsOf b l.length c x) 103) (hb : Has w b (u64s l) 99) (ho : l[i]? = some o) (hl : l.length ≤ 9000000) (hc0 : 0 ≤ c) (hc : c < 4611686018427387904) :
    Calls Tryz.prog 120 #[.pointer (some ⟨g, 0, none⟩), .int .i64 i, .int .u64 o, .int .u64 v] w fun e w' =>
      e = .returned (.tuple #[.bool true, .int .i64 0]) ∧ Upd [g, b] w w' ∧ Has w' g (cellsOf b l.length (c + 1) ⟨3, i, o, v, true⟩) 103 ∧ Has w' b (u64s (l.set i v)) 99 := by
  have hi := get_lt ho
  have hcell : w.cell? ⟨b, i, none⟩ = some (.int .u64 o) := by rw [hb.cell, u64s_at ho]
  have hset := set_same ho
  have F_ := (hg).facts; simp only [blockFacts, listFacts, cellsAt, cellsOf, Nat.reduceAdd, and_true, true_and, and_assoc] at F_
  have HO := Lib.hid ho
  have HS := Lib.hid hset
  clear ho hset
  go_enter Tryz.func120, Tryz.ntmps120
  go_wp2_with (first
    | (go_at_call 86; refine (is_in g b _ c x i _ hg hi).mono ?_; rintro e w' ⟨rfl, rfl⟩)
    | (go_at_call 138; refine (stroke_c g b l c x _ _ _ i o _ hg hb HO.out hl hc0 hc).mono ?_; rintro e w' ⟨rfl, hu, hg', hb'⟩))
  go_ret2
  exact ⟨rfl, hu, hg', hb'⟩

theorem cas_ne (g b : Nat) (l : List Int) (c : Int) (x : Acc) (i : Nat) (o : Int) (q v : Int) (w : World)
    (hg : Has w g (cellsOf b l.length c x) 103) (hb : Has w b (u64s l) 99) (ho : l[i]? = some o) (hl : l.length ≤ 9000000) (hc0 : 0 ≤ c) (hc : c < 4611686018427387904) (hq : (o != q) = true) :
    Calls Tryz.prog 120 #[.pointer (some ⟨g, 0, none⟩), .int .i64 i, .int .u64 q, .int .u64 v] w fun e w' =>
      e = .returned (.tuple #[.bool false, .int .i64 0]) ∧ Upd [g, b] w w' ∧ Has w' g (cellsOf b l.length (c + 1) ⟨3, i, o, o, false⟩) 103 ∧ Has w' b (u64s l) 99 := by
  have hi := get_lt ho
  have hcell : w.cell? ⟨b, i, none⟩ = some (.int .u64 o) := by rw [hb.cell, u64s_at ho]
  have hset := set_same ho
  have F_ := (hg).facts; simp only [blockFacts, listFacts, cellsAt, cellsOf, Nat.reduceAdd, and_true, true_and, and_assoc] at F_
  have HO := Lib.hid ho
  have HS := Lib.hid hset
  clear ho hset
  go_enter Tryz.func120, Tryz.ntmps120
  go_wp2_with (first
    | (go_at_call 86; refine (is_in g b _ c x i _ hg hi).mono ?_; rintro e w' ⟨rfl, rfl⟩)
    | (go_at_call 138; refine (stroke_c g b l c x _ _ _ i o _ hg hb HO.out hl hc0 hc).mono ?_; rintro e w' ⟨rfl, hu, hg', hb'⟩))
  go_ret2
  rw [HS.out] at hb'
  exact ⟨rfl, hu, hg', hb'⟩

theorem cas_out (g b n : Nat) (c : Int) (x : Acc) (a : Int) (q v : Int) (w : World) (hg : Has w g (cellsOf b n c x) 103) (h : a < 0 ∨ (n : Int) ≤ a) :
    Calls Tryz.prog 120 #[.pointer (some ⟨g, 0, none⟩), .int .i64 a, .int .u64 q, .int .u64 v] w fun e w' => e = .returned (.tuple #[.bool false, .int .i64 1]) ∧ w = w' := by
  have H := Lib.hid h
  clear h
  go_enter Tryz.func120, Tryz.ntmps120
  go_wp2_with (go_at_call 86; refine (is_out g b n c x a _ hg H.out).mono ?_; rintro e w' ⟨rfl, rfl⟩)
  go_ret2
  exact ⟨rfl, rfl⟩

theorem peek_out (g b n : Nat) (c : Int) (x : Acc) (a : Int) (w : World) (hg : Has w g (cellsOf b n c x) 103) (h : a < 0 ∨ (n : Int) ≤ a) :
    Calls Tryz.prog 46 #[.pointer (some ⟨g, 0, none⟩), .int .i64 a] w fun e w' => e = .returned (.int .u64 0) ∧ w = w' := by
  have H := Lib.hid h
  clear h
  go_enter Tryz.func46, Tryz.ntmps46
  go_wp2_with (go_at_call 86; refine (is_out g b n c x a _ hg H.out).mono ?_; rintro e w' ⟨rfl, rfl⟩)
  go_ret
  exact ⟨rfl, rfl⟩

theorem lay_out (g b n : Nat) (c : Int) (x : Acc) (a : Int) (v : Int) (w : World) (hg : Has w g (cellsOf b n c x) 103) (h : a < 0 ∨ (n : Int) ≤ a) :
    Calls Tryz.prog 88 #[.pointer (some ⟨g, 0, none⟩), .int .i64 a, .int .u64 v] w fun e w' => e = .returned (.int .i64 1) ∧ w = w' := by
  have H := Lib.hid h
  clear h
  go_enter Tryz.func88, Tryz.ntmps88
  go_wp2_with (go_at_call 86; refine (is_out g b n c x a _ hg H.out).mono ?_; rintro e w' ⟨rfl, rfl⟩)
  go_ret
  exact ⟨rfl, rfl⟩

theorem peek_in (g b : Nat) (l : List Int) (c : Int) (x : Acc) (i : Nat) (o : Int) (w : World) (hg : Has w g (cellsOf b l.length c x) 103) (hb : Has w b (u64s l) 99) (ho : l[i]? = some o) (hl : l.length ≤ 9000000) :
    Calls Tryz.prog 46 #[.pointer (some ⟨g, 0, none⟩), .int .i64 i] w fun e w' => e = .returned (.int .u64 o) ∧ w = w' := by
  have hi := get_lt ho
  have hcell : w.cell? ⟨b, i, none⟩ = some (.int .u64 o) := by rw [hb.cell, u64s_at ho]
  have hset := set_same ho
  have F_ := (hg).facts; simp only [blockFacts, listFacts, cellsAt, cellsOf, Nat.reduceAdd, and_true, true_and, and_assoc] at F_
  have HO := Lib.hid ho
  have HS := Lib.hid hset
  clear ho hset
  go_enter Tryz.func46, Tryz.ntmps46
  go_wp2_with (go_at_call 86; refine (is_in g b _ c x i _ hg hi).mono ?_; rintro e w' ⟨rfl, rfl⟩)
  go_ret
  exact ⟨rfl, rfl⟩

theorem lay_in (g b : Nat) (l : List Int) (c : Int) (x : Acc) (i : Nat) (o : Int) (v : Int) (w : World) (hg : Has w g (cellsOf b l.length c x) 103) (hb : Has w b (u64s l) 99) (ho : l[i]? = some o) (hl : l.length ≤ 9000000) :
    Calls Tryz.prog 88 #[.pointer (some ⟨g, 0, none⟩), .int .i64 i, .int .u64 v] w fun e w' => e = .returned (.int .i64 0) ∧ Upd [b] w w' ∧ Has w' b (u64s (l.set i v)) 99 := by
  have hfr := hb.frozen
  have hi := get_lt ho
  have hcell : w.cell? ⟨b, i, none⟩ = some (.int .u64 o) := by rw [hb.cell, u64s_at ho]
  have hset := set_same ho
  have F_ := (hg).facts; simp only [blockFacts, listFacts, cellsAt, cellsOf, Nat.reduceAdd, and_true, true_and, and_assoc] at F_
  have HO := Lib.hid ho
  have HS := Lib.hid hset
  clear ho hset
  go_enter Tryz.func88, Tryz.ntmps88
  go_wp2_with (go_at_call 86; refine (is_in g b _ c x i _ hg hi).mono ?_; rintro e w' ⟨rfl, rfl⟩)
  go_ret
  refine ⟨rfl, by (repeat (first | (with_reducible exact Upd.refl _ _) | (with_reducible assumption) | (with_reducible refine Upd.setCell ?_ (by first | (left; simp; done) | (right; go_size)) _) | (with_reducible refine Upd.alloc ?_ _) | (with_reducible refine Upd.drewN ?_ _) | (with_reducible refine Upd.drew ?_))), ?_⟩
  rw [← u64s_set]
  (apply Has.congr; (focus ((repeat (first | (with_reducible assumption) | (with_reducible exact Has.new _ _ _) | (with_reducible exact Has.new1 _ _ _ _) | (with_reducible exact Has.new2 _ _ _ _ _) | (with_reducible refine Has.newAt ?_; (simp; done)) | (with_reducible apply Has.set) | (with_reducible apply Has.far; (case hn => first | assumption | (simp; done) | (intro e_; simp at e_; omega))) | (with_reducible apply Has.alloc) | (with_reducible apply Has.drewN) | (with_reducible apply Has.drew) | (with_reducible refine Has.keeps ?_ (by with_reducible assumption)))))); (first | rfl | (simp; done)))

theorem cnew_out (n : Int) (w : World) (h : n < 1 ∨ 8388608 < n) :
    Calls Tryz.prog 9 #[.int .i64 n] w fun e w' => e = .returned (.tuple #[.pointer none, .int .i64 1]) ∧ w = w' := by
  rcases h with h | h
  · go_enter Tryz.func9, Tryz.ntmps9
    go_wp2
    go_ret2
    exact ⟨rfl, rfl⟩
  · have h2 : ¬ n < 1 := by omega
    go_enter Tryz.func9, Tryz.ntmps9
    go_wp2
    go_ret2
    exact ⟨rfl, rfl⟩

end Go.Proofs.YtaecapjicphdkaaGreat
