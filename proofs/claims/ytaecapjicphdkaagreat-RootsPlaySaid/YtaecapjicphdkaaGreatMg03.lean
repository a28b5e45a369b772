/- What a slice of integers is as a call's argument: 'Reads'. -/
import Derived.Test.YtaecapjicphdkaaGreatMg02
import Derived.ChangeSlices
import Derived.WalkKit
import Derived.WalkLawsBesides
namespace Go.Proofs.YtaecapjicphdkaaGreat
set_option linter.unusedVariables false
set_option linter.unusedSimpArgs false
open Go Go.RowKit Go.Joins Go.ChangeShapes Go.WideShapes Go.Deep

section
variable {H : Type} {enc : TypeId × Value → H} {P : Program} {w : World} {base : Nat} {spare : Nat → Bool} {held : Bool}
theorem reads_of {r : Reach} {b0 : Nat} {t e : TypeId} {k : IntKind} {v : Value} {d : DataW H} {p : List MemPlace} (ht : P.underlying t = some (.slice e)) (he : P.underlying e = some (.int k)) (hc : P.cellsOf e = 1)
    (hv : Value.okWide P w r b0 t v) (h : DataW.Trod enc P w base (fun _ => true) held t v d p) : ∃ zs, Reads k w v zs ∧ ∀ n ∈ zs, (Lit.int k n).wf = true := by
  obtain ⟨a, len, cap, rfl⟩ := okWide_slice ht hv
  obtain ⟨fuel, hf⟩ := h
  rcases open_ints ht he hc hf with ⟨hcs, _⟩ | ⟨x, l, c, zs, hcs, _, hl, hm, hz, _, hcell, hwz⟩
  · simp [Value.cells] at hcs
    obtain ⟨rfl, rfl, rfl⟩ := hcs
    exact ⟨[], ⟨none, 0, rfl, fun h => absurd rfl h⟩, fun n hn => by cases hn⟩
  · simp [Value.cells] at hcs
    obtain ⟨rfl, rfl, rfl⟩ := hcs
    simp only [if_true] at hz
    have hlen : (zs.take len).length = len := by simp; omega
    refine ⟨zs.take len, ⟨some x, cap, by rw [hlen], fun hne => ?_⟩, fun n hn => hwz n (List.mem_of_mem_take hn)⟩
    have hl0 : 0 < len := by
      rcases Nat.eq_zero_or_pos len with h0 | h0
      · subst h0; simp at hne
      · exact h0
    obtain ⟨b, off, spot⟩ := x
    have hspot : spot = none := by simpa [Addr.add] using World.cell?_spot (hcell 0 (by omega))
    subst hspot
    have hcell' : ∀ j, j < zs.length → w.cell? ⟨b, off + j, none⟩ = some (.int k (zs.getD j 0)) := fun j hj => by rw [← add_plain]; exact hcell j hj
    refine ⟨b, off, rfl, World.block_lt_of_cell? _ _ (hcell' 0 (by omega)), fun i z hi => ?_⟩
    have hi2 : i < len := by have := (List.getElem?_eq_some_iff.1 hi).1; simp at this; omega
    rw [List.getElem?_take_of_lt hi2] at hi
    rw [hcell' i (by omega), List.getD, hi]; rfl
end
end Go.Proofs.YtaecapjicphdkaaGreat

/- The document's memory as a list of words: what each call does to it. -/
namespace Go.Proofs.YtaecapjicphdkaaGreat
set_option linter.unusedVariables false
set_option linter.unusedSimpArgs false
open Go Go.RowKit
set_option maxRecDepth 100000

/-- The document's memory g: its words l (n of them, in block b), so many accesses. -/
structure RMem (w : World) (g b n : Nat) (l : List Int) (c : Int) : Prop where
  hg : Has w g #[.slice (some ⟨b, 0, none⟩) n n, .int .i64 c] 123
  hb : Has w b (u64s l) 99
  len : l.length = n
  small : n ≤ 9000000
  c0 : 0 ≤ c
  c1 : c ≤ 4611686018427387903
section
variable {w w' : World} {g b n : Nat} {l : List Int} {c : Int}
theorem RMem.upd {S : List Nat} (M : RMem w g b n l c) (h : Upd S w w') (h1 : g ∉ S) (h2 : b ∉ S) : RMem w' g b n l c := ⟨M.hg.upd h h1, M.hb.upd h h2, M.len, M.small, M.c0, M.c1⟩
theorem RMem.keeps (M : RMem w g b n l c) (h : Keeps w w') : RMem w' g b n l c := ⟨M.hg.keeps h, M.hb.keeps h, M.len, M.small, M.c0, M.c1⟩
theorem RMem.alloc (M : RMem w g b n l c) (o : Obj) : RMem (w.alloc o) g b n l c := M.keeps ((Keeps.refl w).alloc o)
theorem RMem.ne (M : RMem w g b n l c) : g ≠ b := M.hg.ne M.hb (by decide)
theorem RMem.lt (M : RMem w g b n l c) : g < w.heap.size ∧ b < w.heap.size := ⟨M.hg.lt, M.hb.lt⟩

theorem rmload (M : RMem w g b n l c) (i : Nat) {o : Int} (ho : l[i]? = some o) (hc : c < 4611686018427387903) :
    Calls Tryz.prog 100 #[.pointer (some ⟨g, 0, none⟩), .int .i64 i] w fun e w' => e = .returned (.int .u64 o) ∧ Upd [g, b] w w' ∧ RMem w' g b n l (c + 1) := by
  have hne := M.ne
  have hne2 : ¬ b = g := fun e => hne e.symm
  obtain ⟨hg, hb, rfl, hs, c0, c1⟩ := M
  have hi := get_lt ho
  have hcell : w.cell? ⟨b, i, none⟩ = some (.int .u64 o) := by rw [hb.cell, u64s_at ho]
  clear ho
  have HS := Lib.hid hs
  have F_ := (hg).facts; simp only [blockFacts, listFacts, cellsAt, Nat.reduceAdd, and_true, true_and, and_assoc] at F_
  go_enter Tryz.func100, Tryz.ntmps100
  go_wp2
  go_ret
  exact ⟨rfl, by (repeat (first | (with_reducible exact Upd.refl _ _) | (with_reducible assumption) | (with_reducible refine Upd.setCell ?_ (by first | (left; simp; done) | (right; go_size)) _) | (with_reducible refine Upd.alloc ?_ _) | (with_reducible refine Upd.drewN ?_ _) | (with_reducible refine Upd.drew ?_))), by (apply Has.congr; (focus ((repeat (first | (with_reducible assumption) | (with_reducible exact Has.new _ _ _) | (with_reducible exact Has.new1 _ _ _ _) | (with_reducible exact Has.new2 _ _ _ _ _) | (with_reducible refine Has.newAt ?_; (simp; done)) | (with_reducible apply Has.set) | (with_reducible apply Has.far; (case hn => first | assumption | (simp; done) | (intro e_; simp at e_; omega))) | (with_reducible apply Has.alloc) | (with_reducible apply Has.drewN) | (with_reducible apply Has.drew) | (with_reducible refine Has.keeps ?_ (by with_reducible assumption)))))); (first | rfl | (simp; done))), by (apply Has.congr; (focus ((repeat (first | (with_reducible assumption) | (with_reducible exact Has.new _ _ _) | (with_reducible exact Has.new1 _ _ _ _) | (with_reducible exact Has.new2 _ _ _ _ _) | (with_reducible refine Has.newAt ?_; (simp; done)) | (with_reducible apply Has.set) | (with_reducible apply Has.far; (case hn => first | assumption | (simp; done) | (intro e_; simp at e_; omega))) | (with_reducible apply Has.alloc) | (with_reducible apply Has.drewN) | (with_reducible apply Has.drew) | (with_reducible refine Has.keeps ?_ (by with_reducible assumption)))))); (first | rfl | (simp; done))), rfl, HS.out, by omega, by omega⟩
theorem rmstore (M : RMem w g b n l c) (i : Nat) {o : Int} (v : Int) (ho : l[i]? = some o) (hc : c < 4611686018427387903) :
    Calls Tryz.prog 104 #[.pointer (some ⟨g, 0, none⟩), .int .i64 i, .int .u64 v] w fun e w' => e = .returned (.tuple #[]) ∧ Upd [g, b] w w' ∧ RMem w' g b n (l.set i v) (c + 1) := by
  have hne := M.ne
  have hne2 : ¬ b = g := fun e => hne e.symm
  obtain ⟨hg, hb, rfl, hs, c0, c1⟩ := M
  have hi := get_lt ho
  have hcell : w.cell? ⟨b, i, none⟩ = some (.int .u64 o) := by rw [hb.cell, u64s_at ho]
  have hfr := hb.frozen
  clear ho
  have HS := Lib.hid hs
  have F_ := (hg).facts; simp only [blockFacts, listFacts, cellsAt, Nat.reduceAdd, and_true, true_and, and_assoc] at F_
  go_enter Tryz.func104, Tryz.ntmps104
  go_wp2
  go_returns
  exact ⟨rfl, by (repeat (first | (with_reducible exact Upd.refl _ _) | (with_reducible assumption) | (with_reducible refine Upd.setCell ?_ (by first | (left; simp; done) | (right; go_size)) _) | (with_reducible refine Upd.alloc ?_ _) | (with_reducible refine Upd.drewN ?_ _) | (with_reducible refine Upd.drew ?_))), by (apply Has.congr; (focus ((repeat (first | (with_reducible assumption) | (with_reducible exact Has.new _ _ _) | (with_reducible exact Has.new1 _ _ _ _) | (with_reducible exact Has.new2 _ _ _ _ _) | (with_reducible refine Has.newAt ?_; (simp; done)) | (with_reducible apply Has.set) | (with_reducible apply Has.far; (case hn => first | assumption | (simp; done) | (intro e_; simp at e_; omega))) | (with_reducible apply Has.alloc) | (with_reducible apply Has.drewN) | (with_reducible apply Has.drew) | (with_reducible refine Has.keeps ?_ (by with_reducible assumption)))))); (first | rfl | (simp; done))), by rw [← u64s_set]; (apply Has.congr; (focus ((repeat (first | (with_reducible assumption) | (with_reducible exact Has.new _ _ _) | (with_reducible exact Has.new1 _ _ _ _) | (with_reducible exact Has.new2 _ _ _ _ _) | (with_reducible refine Has.newAt ?_; (simp; done)) | (with_reducible apply Has.set) | (with_reducible apply Has.far; (case hn => first | assumption | (simp; done) | (intro e_; simp at e_; omega))) | (with_reducible apply Has.alloc) | (with_reducible apply Has.drewN) | (with_reducible apply Has.drew) | (with_reducible refine Has.keeps ?_ (by with_reducible assumption)))))); (first | rfl | (simp; done))), by simp, HS.out, by omega, by omega⟩
theorem rmcas_eq (M : RMem w g b n l c) (i : Nat) {o : Int} (v : Int) (ho : l[i]? = some o) (hc : c < 4611686018427387903) :
    Calls Tryz.prog 106 #[.pointer (some ⟨g, 0, none⟩), .int .i64 i, .int .u64 o, .int .u64 v] w fun e w' => e = .returned (.bool true) ∧ Upd [g, b] w w' ∧ RMem w' g b n (l.set i v) (c + 1) := by
  have hne := M.ne
  have hne2 : ¬ b = g := fun e => hne e.symm
  obtain ⟨hg, hb, rfl, hs, c0, c1⟩ := M
  have hi := get_lt ho
  have hcell : w.cell? ⟨b, i, none⟩ = some (.int .u64 o) := by rw [hb.cell, u64s_at ho]
  have hfr := hb.frozen
  clear ho
  have HS := Lib.hid hs
  have F_ := (hg).facts; simp only [blockFacts, listFacts, cellsAt, Nat.reduceAdd, and_true, true_and, and_assoc] at F_
  go_enter Tryz.func106, Tryz.ntmps106
  go_wp2
  go_ret
  exact ⟨rfl, by (repeat (first | (with_reducible exact Upd.refl _ _) | (with_reducible assumption) | (with_reducible refine Upd.setCell ?_ (by first | (left; simp; done) | (right; go_size)) _) | (with_reducible refine Upd.alloc ?_ _) | (with_reducible refine Upd.drewN ?_ _) | (with_reducible refine Upd.drew ?_))), by (apply Has.congr; (focus ((repeat (first | (with_reducible assumption) | (with_reducible exact Has.new _ _ _) | (with_reducible exact Has.new1 _ _ _ _) | (with_reducible exact Has.new2 _ _ _ _ _) | (with_reducible refine Has.newAt ?_; (simp; done)) | (with_reducible apply Has.set) | (with_reducible apply Has.far; (case hn => first | assumption | (simp; done) | (intro e_; simp at e_; omega))) | (with_reducible apply Has.alloc) | (with_reducible apply Has.drewN) | (with_reducible apply Has.drew) | (with_reducible refine Has.keeps ?_ (by with_reducible assumption)))))); (first | rfl | (simp; done))), by rw [← u64s_set]; (apply Has.congr; (focus ((repeat (first | (with_reducible assumption) | (with_reducible exact Has.new _ _ _) | (with_reducible exact Has.new1 _ _ _ _) | (with_reducible exact Has.new2 _ _ _ _ _) | (with_reducible refine Has.newAt ?_; (simp; done)) | (with_reducible apply Has.set) | (with_reducible apply Has.far; (case hn => first | assumption | (simp; done) | (intro e_; simp at e_; omega))) | (with_reducible apply Has.alloc) | (with_reducible apply Has.drewN) | (with_reducible apply Has.drew) | (with_reducible refine Has.keeps ?_ (by with_reducible assumption)))))); (first | rfl | (simp; done))), by simp, HS.out, by omega, by omega⟩
theorem rmcas_ne (M : RMem w g b n l c) (i : Nat) {o : Int} (q v : Int) (ho : l[i]? = some o) (hc : c < 4611686018427387903) (hq : (o != q) = true) :
    Calls Tryz.prog 106 #[.pointer (some ⟨g, 0, none⟩), .int .i64 i, .int .u64 q, .int .u64 v] w fun e w' => e = .returned (.bool false) ∧ Upd [g, b] w w' ∧ RMem w' g b n l (c + 1) := by
  have hne := M.ne
  have hne2 : ¬ b = g := fun e => hne e.symm
  obtain ⟨hg, hb, rfl, hs, c0, c1⟩ := M
  have hi := get_lt ho
  have hcell : w.cell? ⟨b, i, none⟩ = some (.int .u64 o) := by rw [hb.cell, u64s_at ho]
  have hfr := hb.frozen
  clear ho
  have HS := Lib.hid hs
  have F_ := (hg).facts; simp only [blockFacts, listFacts, cellsAt, Nat.reduceAdd, and_true, true_and, and_assoc] at F_
  go_enter Tryz.func106, Tryz.ntmps106
  go_wp2
  go_ret
  exact ⟨rfl, by (repeat (first | (with_reducible exact Upd.refl _ _) | (with_reducible assumption) | (with_reducible refine Upd.setCell ?_ (by first | (left; simp; done) | (right; go_size)) _) | (with_reducible refine Upd.alloc ?_ _) | (with_reducible refine Upd.drewN ?_ _) | (with_reducible refine Upd.drew ?_))), by (apply Has.congr; (focus ((repeat (first | (with_reducible assumption) | (with_reducible exact Has.new _ _ _) | (with_reducible exact Has.new1 _ _ _ _) | (with_reducible exact Has.new2 _ _ _ _ _) | (with_reducible refine Has.newAt ?_; (simp; done)) | (with_reducible apply Has.set) | (with_reducible apply Has.far; (case hn => first | assumption | (simp; done) | (intro e_; simp at e_; omega))) | (with_reducible apply Has.alloc) | (with_reducible apply Has.drewN) | (with_reducible apply Has.drew) | (with_reducible refine Has.keeps ?_ (by with_reducible assumption)))))); (first | rfl | (simp; done))), by (apply Has.congr; (focus ((repeat (first | (with_reducible assumption) | (with_reducible exact Has.new _ _ _) | (with_reducible exact Has.new1 _ _ _ _) | (with_reducible exact Has.new2 _ _ _ _ _) | (with_reducible refine Has.newAt ?_; (simp; done)) | (with_reducible apply Has.set) | (with_reducible apply Has.far; (case hn => first | assumption | (simp; done) | (intro e_; simp at e_; omega))) | (with_reducible apply Has.alloc) | (with_reducible apply Has.drewN) | (with_reducible apply Has.drew) | (with_reducible refine Has.keeps ?_ (by with_reducible assumption)))))); (first | rfl | (simp; done))), rfl, HS.out, by omega, by omega⟩
theorem rmnew (n : Nat) (w : World) (h1 : n ≤ 8388608) :
    Calls Tryz.prog 89 #[.int .i64 n] w fun e w' => ∃ g b : Nat, e = .returned (.pointer (some ⟨g, 0, none⟩)) ∧ Keeps w w' ∧ w.heap.size ≤ g ∧ w.heap.size ≤ b ∧ RMem w' g b n (List.replicate n 0) 0 := by
  have hmk := make_u64 n (by omega)
  go_enter Tryz.func89, Tryz.ntmps89
  go_wp2
  go_ret
  exact ⟨w.heap.size + 1, w.heap.size, rfl, by ((repeat' (first | (with_reducible exact Keeps.refl _) | (with_reducible assumption) | (with_reducible refine Keeps.drewN ?_ _) | (with_reducible refine Keeps.drew ?_) | (with_reducible refine Keeps.alloc ?_ _) | (with_reducible refine Keeps.setCell ?_ ?_ _) | (with_reducible refine Keeps.trans ?_ (After.keeps _)) | (with_reducible refine Keeps.trans ?_ (by with_reducible assumption)) | go_size)); (first | done | fail)), by omega, by omega, by (apply Has.congr; (focus ((repeat (first | (with_reducible assumption) | (with_reducible exact Has.new _ _ _) | (with_reducible exact Has.new1 _ _ _ _) | (with_reducible exact Has.new2 _ _ _ _ _) | (with_reducible refine Has.newAt ?_; (simp; done)) | (with_reducible apply Has.set) | (with_reducible apply Has.far; (case hn => first | assumption | (simp; done) | (intro e_; simp at e_; omega))) | (with_reducible apply Has.alloc) | (with_reducible apply Has.drewN) | (with_reducible apply Has.drew) | (with_reducible refine Has.keeps ?_ (by with_reducible assumption)))))); (first | rfl | (simp; done))), by (apply Has.congr; (focus ((repeat (first | (with_reducible assumption) | (with_reducible exact Has.new _ _ _) | (with_reducible exact Has.new1 _ _ _ _) | (with_reducible exact Has.new2 _ _ _ _ _) | (with_reducible refine Has.newAt ?_; (simp; done)) | (with_reducible apply Has.set) | (with_reducible apply Has.far; (case hn => first | assumption | (simp; done) | (intro e_; simp at e_; omega))) | (with_reducible apply Has.alloc) | (with_reducible apply Has.drewN) | (with_reducible apply Has.drew) | (with_reducible refine Has.keeps ?_ (by with_reducible assumption)))))); (first | rfl | (simp; done))), by simp, by omega, by omega, by omega⟩
end
end Go.Proofs.YtaecapjicphdkaaGreat

/- Plain lemmas on fields of a number's bits (no program): masks, what stands in a field, what is put. -/
namespace Go.Proofs.YtaecapjicphdkaaGreat
set_option linter.unusedVariables false
set_option linter.unusedSimpArgs false
open Go

/-- Mask of n bits (n any integer). -/
def maskI (n : Int) : Int := 2 ^ (min (max n 0) 64).toNat - 1
/-- What stands in a field. -/
def getN (w a n : Nat) : Nat := w / 2 ^ a % 2 ^ n
/-- A word with another field. -/
def putN (w a n v : Nat) : Nat := 2 ^ a * (2 ^ n * (w / 2 ^ (a + n)) + v) + w % 2 ^ a

theorem two_pow_pos (n : Nat) : 0 < 2 ^ n := Nat.pow_pos (by omega)

theorem maskI_nat (n : Nat) (h : n ≤ 64) : maskI (n : Int) = ((2 ^ n - 1 : Nat) : Int) := by
  unfold maskI
  have : (min (max (n : Int) 0) 64).toNat = n := by omega
  rw [this]
  have h2 := two_pow_pos n
  rw [Int.natCast_sub (by omega)]
  simp

theorem maskI_of (n : Int) : maskI n = ((2 ^ (min (max n 0) 64).toNat - 1 : Nat) : Int) := by
  unfold maskI
  have h2 := two_pow_pos (min (max n 0) 64).toNat
  rw [Int.natCast_sub (by omega)]
  simp

theorem two_pow_le_64 {n : Nat} (h : n ≤ 64) : 2 ^ n ≤ 18446744073709551616 := by
  have := Nat.pow_le_pow_right (n := 2) (by omega) h
  simpa using this

theorem maskI_bd (n : Int) : 0 ≤ maskI n ∧ maskI n < 18446744073709551616 := by
  rw [maskI_of]
  have := two_pow_le_64 (n := (min (max n 0) 64).toNat) (by omega)
  have h2 := two_pow_pos (min (max n 0) 64).toNat
  omega

theorem maskI_neg {n : Int} (h : n ≤ 0) : maskI n = 0 := by
  unfold maskI
  have : (min (max n 0) 64).toNat = 0 := by omega
  rw [this]; rfl

theorem maskI_big {n : Int} (h : 64 ≤ n) : maskI n = 18446744073709551615 := by
  unfold maskI
  have : (min (max n 0) 64).toNat = 64 := by omega
  rw [this]; rfl

theorem maskI_mid {n : Int} (h0 : 0 ≤ n) (h : n ≤ 64) : maskI n = 2 ^ n.toNat - 1 := by
  unfold maskI
  have : (min (max n 0) 64).toNat = n.toNat := by omega
  rw [this]

/-- Bits above n of 2^64-1-(2^n-1). -/
theorem testBit_hi (n j : Nat) (hn : n ≤ 64) : (18446744073709551615 - (2 ^ n - 1)).testBit j = (decide (n ≤ j) && decide (j < 64)) := by
  have e : 18446744073709551615 - (2 ^ n - 1) = 2 ^ n * (2 ^ (64 - n) - 1) + 0 := by
    rw [Nat.mul_sub, ← Nat.pow_add, Nat.mul_one, show n + (64 - n) = 64 from by omega]
    have := two_pow_pos n
    have := two_pow_le_64 hn
    omega
  rw [e, Nat.testBit_two_pow_mul_add _ (two_pow_pos n)]
  by_cases h : j < n
  · simp [h]; omega
  · have e1 : decide (j - n < 64 - n) = decide (j < 64) := by apply decide_eq_decide.2; omega
    simp [h, Nat.testBit_two_pow_sub_one, e1]; omega

theorem and_hi (x n : Nat) (hx : x < 18446744073709551616) (hn : n ≤ 64) : x &&& (18446744073709551615 - (2 ^ n - 1)) = x - x % 2 ^ n := by
  have e : x - x % 2 ^ n = 2 ^ n * (x / 2 ^ n) + 0 := by
    have := Nat.div_add_mod x (2 ^ n); omega
  rw [e]
  apply Nat.eq_of_testBit_eq
  intro j
  rw [Nat.testBit_and, testBit_hi n j hn, Nat.testBit_two_pow_mul_add _ (two_pow_pos n), Nat.testBit_div_two_pow]
  by_cases h : j < n
  · simp [h]; omega
  · by_cases h64 : j < 64
    · simp [h, h64, show j - n + n = j from by omega]; omega
    · have hx' : x.testBit j = false := Nat.testBit_lt_two_pow (Nat.lt_of_lt_of_le hx (by
        have := Nat.pow_le_pow_right (n := 2) (by omega) (show 64 ≤ j by omega); simpa using this))
      simp [h, h64, show j - n + n = j from by omega, hx']

/-- v &^ mask is nought just if v is at most the mask. -/
theorem andNot_mask_zero (v : Int) (n : Int) (h0 : 0 ≤ v) (h1 : v < 18446744073709551616) :
    (bits .andNot .u64 v (maskI n) = 0) ↔ v ≤ maskI n := by
  obtain ⟨x, rfl⟩ := Int.eq_ofNat_of_zero_le h0
  have hb := maskI_bd n
  rw [u64_andNot _ _ h0 h1 hb.1 hb.2]
  rw [maskI_of]
  generalize hk : (min (max n 0) 64).toNat = k
  have hk64 : k ≤ 64 := by omega
  simp only [Int.toNat_natCast]
  rw [and_hi x k (by omega) hk64]
  have h2 := two_pow_pos k
  have hm := Nat.mod_lt x h2
  constructor
  · intro h
    have : x - x % 2 ^ k = 0 := by omega
    omega
  · intro h
    have hx : x < 2 ^ k := by omega
    rw [Nat.mod_eq_of_lt hx]
    simp

theorem and_mask (v : Int) (n : Nat) (h0 : 0 ≤ v) (h1 : v < 18446744073709551616) (hn : n ≤ 64) :
    bits .and .u64 v (maskI (n : Int)) = ((v.toNat % 2 ^ n : Nat) : Int) := by
  have hb := maskI_bd n
  rw [u64_and _ _ h0 h1 hb.1 hb.2, maskI_nat n hn]
  simp only [Int.toNat_natCast]
  rw [Nat.and_two_pow_sub_one_eq_mod]

theorem testBit_put (w a n v j : Nat) (hv : v < 2 ^ n) :
    (putN w a n v).testBit j = if j < a then w.testBit j else if j < a + n then v.testBit (j - a) else w.testBit j := by
  unfold putN
  rw [Nat.testBit_two_pow_mul_add _ (Nat.mod_lt _ (two_pow_pos a))]
  by_cases h : j < a
  · simp [h, Nat.testBit_mod_two_pow]
  · rw [if_neg h, if_neg h, Nat.testBit_two_pow_mul_add _ hv, Nat.testBit_div_two_pow]
    by_cases h2 : j < a + n
    · rw [if_pos (by omega), if_pos h2]
    · rw [if_neg (by omega), if_neg h2]
      congr 1
      omega

theorem put_bits (w a n v : Nat) (hw : w < 18446744073709551616) (han : a + n ≤ 64) (hv : v < 2 ^ n) :
    (w &&& (18446744073709551615 - (2 ^ n - 1) * 2 ^ a)) ||| v * 2 ^ a = putN w a n v := by
  apply Nat.eq_of_testBit_eq
  intro j
  rw [testBit_put w a n v j hv, Nat.testBit_or, Nat.testBit_and, Nat.mul_comm v]
  have e1 : (2 ^ a * v).testBit j = (decide (a ≤ j) && v.testBit (j - a)) := by rw [Nat.testBit_two_pow_mul]
  have e2 : (18446744073709551615 - (2 ^ n - 1) * 2 ^ a).testBit j = (decide (j < 64) && !(decide (a ≤ j) && decide (j < a + n))) := by
    have hle : (2 ^ n - 1) * 2 ^ a < 2 ^ 64 := by
      have h3 : (2 ^ n - 1) * 2 ^ a < 2 ^ n * 2 ^ a := Nat.mul_lt_mul_of_pos_right (by have := two_pow_pos n; omega) (two_pow_pos a)
      rw [← Nat.pow_add] at h3
      exact Nat.lt_of_lt_of_le h3 (Nat.pow_le_pow_right (by omega) (by omega))
    have h4 := Nat.testBit_two_pow_sub_succ hle j
    rw [show 18446744073709551615 - (2 ^ n - 1) * 2 ^ a = 2 ^ 64 - ((2 ^ n - 1) * 2 ^ a + 1) from by omega, h4, Nat.mul_comm, Nat.testBit_two_pow_mul, Nat.testBit_two_pow_sub_one]
    congr 2
    by_cases h : a ≤ j
    · simp [h]; omega
    · simp [h]
  rw [e1, e2]
  by_cases h : j < a
  · have hw' : j < 64 := by omega
    simp [h, hw', show ¬ a ≤ j from by omega]
  · by_cases h2 : j < a + n
    · simp [h, h2, show a ≤ j from by omega]
    · by_cases h3 : j < 64
      · have : v.testBit (j - a) = false := Nat.testBit_lt_two_pow (Nat.lt_of_lt_of_le hv (Nat.pow_le_pow_right (by omega) (by omega)))
        simp [h, h2, h3, this]
      · have hw' : w.testBit j = false := Nat.testBit_lt_two_pow (Nat.lt_of_lt_of_le hw (by
          have := Nat.pow_le_pow_right (n := 2) (by omega) (show 64 ≤ j by omega); simpa using this))
        have : v.testBit (j - a) = false := Nat.testBit_lt_two_pow (Nat.lt_of_lt_of_le hv (Nat.pow_le_pow_right (by omega) (by omega)))
        simp [h, h2, h3, this, hw']

theorem putN_lt (w a n v : Nat) (hw : w < 18446744073709551616) (han : a + n ≤ 64) (hv : v < 2 ^ n) : putN w a n v < 18446744073709551616 := by
  have : putN w a n v < 2 ^ 64 := by
    apply Nat.lt_pow_two_of_testBit
    intro j hj
    rw [testBit_put w a n v j hv, if_neg (by omega), if_neg (by omega)]
    exact Nat.testBit_lt_two_pow (Nat.lt_of_lt_of_le hw (by
      have := Nat.pow_le_pow_right (n := 2) (by omega) hj; simpa using this))
  simpa using this

theorem getN_put (w a n v : Nat) (hv : v < 2 ^ n) : getN (putN w a n v) a n = v := by
  unfold getN putN
  rw [Nat.mul_add_div (two_pow_pos a), Nat.div_eq_of_lt (Nat.mod_lt _ (two_pow_pos a)), Nat.add_zero, Nat.mul_add_mod]
  exact Nat.mod_eq_of_lt hv

theorem testBit_get (w a n j : Nat) : (getN w a n).testBit j = (decide (j < n) && w.testBit (a + j)) := by
  unfold getN
  rw [Nat.testBit_mod_two_pow, Nat.testBit_div_two_pow, Nat.add_comm]

theorem getN_lt (w a n : Nat) : getN w a n < 2 ^ n := Nat.mod_lt _ (two_pow_pos n)

theorem put_get (w a n : Nat) : putN w a n (getN w a n) = w := by
  apply Nat.eq_of_testBit_eq
  intro j
  rw [testBit_put _ _ _ _ _ (getN_lt w a n), testBit_get]
  split
  · rfl
  · split
    · rw [show a + (j - a) = j from by omega]
      simp; omega
    · rfl

theorem put_put (w a n v u : Nat) (hv : v < 2 ^ n) (hu : u < 2 ^ n) : putN (putN w a n v) a n u = putN w a n u := by
  apply Nat.eq_of_testBit_eq
  intro j
  rw [testBit_put _ _ _ _ _ hu, testBit_put _ _ _ _ _ hu, testBit_put _ _ _ _ _ hv]
  split
  · rfl
  · split <;> simp_all

theorem put_comm (w a n v b m u : Nat) (hv : v < 2 ^ n) (hu : u < 2 ^ m) (h : a + n ≤ b) : putN (putN w a n v) b m u = putN (putN w b m u) a n v := by
  apply Nat.eq_of_testBit_eq
  intro j
  rw [testBit_put _ _ _ _ _ hu, testBit_put _ _ _ _ _ hv, testBit_put _ _ _ _ _ hv, testBit_put _ _ _ _ _ hu]
  repeat' split
  all_goals first | rfl | omega

theorem get_put_other (w a n v b m : Nat) (hv : v < 2 ^ n) (h : a + n ≤ b ∨ b + m ≤ a) : getN (putN w a n v) b m = getN w b m := by
  apply Nat.eq_of_testBit_eq
  intro j
  rw [testBit_get, testBit_get, testBit_put _ _ _ _ _ hv]
  by_cases hj : j < m
  · simp only [hj, decide_true, Bool.true_and]
    split
    · rfl
    · split
      · omega
      · rfl
  · simp [hj]

/-- One bit more of a field. -/
theorem getN_succ (w a i : Nat) : getN w a (i + 1) = getN w a i + 2 ^ i * (w / 2 ^ (a + i) % 2) := by
  unfold getN
  rw [Nat.mod_pow_succ, Nat.div_div_eq_div_mul, ← Nat.pow_add]
theorem putN_zero (w a v : Nat) (hv : v < 2 ^ 0) : putN w a 0 v = w := by
  have : v = 0 := by simp at hv; omega
  subst this
  unfold putN
  simp
  have := Nat.div_add_mod w (2 ^ a)
  omega

theorem get_fact (x a n : Int) (h0 : 0 ≤ x) (h1 : x < 18446744073709551616) (g1 : 0 ≤ n) (g2 : n ≤ 64) :
    bits .and .u64 (x / 2 ^ a.toNat) (maskI n) = (getN x.toNat a.toNat n.toNat : Int) := by
  obtain ⟨y, rfl⟩ := Int.eq_ofNat_of_zero_le h0
  obtain ⟨m, rfl⟩ := Int.eq_ofNat_of_zero_le g1
  have e : ((y : Int) / 2 ^ a.toNat) = ((y / 2 ^ a.toNat : Nat) : Int) := by simp
  have hlt : y / 2 ^ a.toNat ≤ y := Nat.div_le_self _ _
  rw [e]
  show bits .and .u64 ((y / 2 ^ a.toNat : Nat) : Int) (maskI (m : Int)) = ((y / 2 ^ a.toNat % 2 ^ m : Nat) : Int)
  generalize y / 2 ^ a.toNat = z at *
  rw [and_mask _ m (by omega) (by omega) (by omega)]
  rfl

theorem put_fact (x a n v : Int) (h0 : 0 ≤ x) (h1 : x < 18446744073709551616) (g1 : 0 ≤ n) (g3 : 0 ≤ a) (g4 : a + n ≤ 64) (v0 : 0 ≤ v) (v1 : v ≤ maskI n) :
    bits .or .u64 (bits .andNot .u64 x (IntKind.u64.wrap (maskI n * 2 ^ a.toNat))) (IntKind.u64.wrap (v * 2 ^ a.toNat)) = (putN x.toNat a.toNat n.toNat v.toNat : Int) := by
  obtain ⟨y, rfl⟩ := Int.eq_ofNat_of_zero_le h0
  obtain ⟨m, rfl⟩ := Int.eq_ofNat_of_zero_le g1
  obtain ⟨b, rfl⟩ := Int.eq_ofNat_of_zero_le g3
  obtain ⟨u, rfl⟩ := Int.eq_ofNat_of_zero_le v0
  rw [maskI_nat m (by omega)] at v1 ⊢
  have hm := two_pow_pos m
  have hu : u < 2 ^ m := by omega
  have hle : (2 ^ m - 1) * 2 ^ b < 18446744073709551616 := by
    have h3 : (2 ^ m - 1) * 2 ^ b < 2 ^ m * 2 ^ b := Nat.mul_lt_mul_of_pos_right (by omega) (two_pow_pos b)
    rw [← Nat.pow_add] at h3
    exact Nat.lt_of_lt_of_le h3 (two_pow_le_64 (by omega))
  have hlu : u * 2 ^ b < 18446744073709551616 := Nat.lt_of_le_of_lt (Nat.mul_le_mul_right _ (by omega)) hle
  simp only [Int.toNat_natCast]
  have e1 : (((2 ^ m - 1 : Nat) : Int) * 2 ^ b) = (((2 ^ m - 1) * 2 ^ b : Nat) : Int) := by simp
  have e2 : ((u : Int) * 2 ^ b) = ((u * 2 ^ b : Nat) : Int) := by simp
  rw [e1, e2, IntKind.wrap_u64, IntKind.wrap_u64, Int.emod_eq_of_lt (by omega) (by omega), Int.emod_eq_of_lt (by omega) (by omega)]
  rw [u64_andNot_nat _ _ (by omega) hle]
  rw [u64_or_nat _ _ (Nat.lt_of_le_of_lt Nat.and_le_left (by omega)) hlu]
  rw [put_bits y b m u (by omega) (by omega) hu]

theorem fits_lt {n v : Int} (g1 : 0 ≤ n) (g2 : n ≤ 64) (v0 : 0 ≤ v) (v1 : v ≤ maskI n) : v.toNat < 2 ^ n.toNat := by
  obtain ⟨m, rfl⟩ := Int.eq_ofNat_of_zero_le g1
  rw [maskI_nat m (by omega)] at v1
  have hm := two_pow_pos m
  simp only [Int.toNat_natCast]
  omega

theorem tmod_low {v n : Int} (h : 1 ≤ n) (ht : v.tmod n < 0) : v.tmod n + n = v % n ∧ -n < v.tmod n := by
  have h1 := @Int.tmod_eq_emod v n
  have h2 := Int.emod_nonneg v (show n ≠ 0 by omega)
  have h3 := Int.emod_lt_of_pos v (show 0 < n by omega)
  split at h1 <;> omega

theorem tmod_high {v n : Int} (h : 1 ≤ n) (ht : 0 ≤ v.tmod n) : v.tmod n = v % n := by
  have h1 := @Int.tmod_eq_emod v n
  have h2 := Int.emod_nonneg v (show n ≠ 0 by omega)
  have h3 := Int.emod_lt_of_pos v (show 0 < n by omega)
  split at h1 <;> omega

theorem and_one (x j : Nat) (hx : x < 18446744073709551616) : bits .and .u64 ((x : Int) / 2 ^ j) 1 = ((x / 2 ^ j % 2 : Nat) : Int) := by
  have e : ((x : Int) / 2 ^ j) = ((x / 2 ^ j : Nat) : Int) := by simp
  have hle : x / 2 ^ j ≤ x := Nat.div_le_self _ _
  rw [e]
  generalize x / 2 ^ j = z at *
  have h := u64_and_nat z 1 (by omega) (by omega)
  rw [show (1 : Int) = ((1 : Nat) : Int) from rfl, h, Nat.and_one_is_mod]

theorem and_one_eq (x j : Nat) (hx : x < 18446744073709551616) : (bits .and .u64 ((x : Int) / 2 ^ j) 1 == 1) = decide (x / 2 ^ j % 2 = 1) := by
  rw [and_one x j hx, Bool.eq_iff_iff]
  generalize x / 2 ^ j % 2 = z at *
  simp
  omega

theorem getN_step (x b k : Nat) : (getN x b (k + 1) : Int) = (getN x b k : Int) + if x / 2 ^ (b + k) % 2 = 1 then 2 ^ k else 0 := by
  rw [getN_succ]
  have h : x / 2 ^ (b + k) % 2 = 1 ∨ x / 2 ^ (b + k) % 2 = 0 := by omega
  rcases h with h | h <;> simp [h]

theorem getN_wrap (x b k : Nat) (h : b + k < 64) (hb : (x / 2 ^ (b + k) % 2) = 1) :
    IntKind.u64.wrap ((getN x b k : Int) + IntKind.u64.wrap (2 ^ k)) = (getN x b (k + 1) : Int) := by
  have h1 := getN_step x b k
  rw [if_pos hb] at h1
  have h2 := getN_lt x b (k + 1)
  have h3 := two_pow_le_64 (n := k + 1) (by omega)
  have h4 : ((2 ^ k : Nat) : Int) = (2 : Int) ^ k := by simp
  have h5 := two_pow_le_64 (n := k) (by omega)
  have h6 : 2 ^ k < 2 ^ (k + 1) := Nat.pow_lt_pow_right (by omega) (by omega)
  rw [← h4] at h1 ⊢
  simp only [IntKind.wrap_u64]
  generalize 2 ^ k = p at *
  omega

theorem test_bit_eq (x j : Nat) : (x / 2 ^ j % 2 = 1) = (x.testBit j = true) := by
  rw [Nat.testBit_eq_decide_div_mod_eq]; simp

theorem mod_succ_bit (v k j : Nat) : (v % 2 ^ (k + 1)).testBit j = (decide (j ≤ k) && v.testBit j) := by
  rw [Nat.testBit_mod_two_pow]
  congr 1
  apply decide_eq_decide.2
  omega

theorem putN_step_same (x b k v : Nat) (h : (putN x b k (v % 2 ^ k)).testBit (b + k) = v.testBit k) :
    putN x b (k + 1) (v % 2 ^ (k + 1)) = putN x b k (v % 2 ^ k) := by
  apply Nat.eq_of_testBit_eq
  intro j
  rw [testBit_put _ _ _ _ _ (Nat.mod_lt _ (two_pow_pos k))] at h ⊢
  rw [testBit_put _ _ _ _ _ (Nat.mod_lt _ (two_pow_pos (k + 1)))]
  rw [if_neg (by omega), if_neg (by omega)] at h
  by_cases h1 : j < b
  · simp [h1]
  · by_cases h2 : j < b + k
    · rw [if_neg h1, if_pos (by omega), if_neg h1, if_pos h2, Nat.testBit_mod_two_pow, Nat.testBit_mod_two_pow]
      simp [show j - b < k + 1 from by omega, show j - b < k from by omega]
    · by_cases h3 : j = b + k
      · subst h3
        rw [if_neg h1, if_pos (by omega), if_neg h1, if_neg h2, Nat.testBit_mod_two_pow]
        rw [h, show b + k - b = k from by omega]
        simp
      · rw [if_neg h1, if_neg (by omega), if_neg h1, if_neg h2]

theorem putN_step_turn (x b k v : Nat) (h : (putN x b k (v % 2 ^ k)).testBit (b + k) ≠ v.testBit k) :
    putN x b (k + 1) (v % 2 ^ (k + 1)) = putN x b k (v % 2 ^ k) ^^^ 2 ^ (b + k) := by
  apply Nat.eq_of_testBit_eq
  intro j
  rw [Nat.testBit_xor, Nat.testBit_two_pow]
  rw [testBit_put _ _ _ _ _ (Nat.mod_lt _ (two_pow_pos k))] at h ⊢
  rw [testBit_put _ _ _ _ _ (Nat.mod_lt _ (two_pow_pos (k + 1)))]
  rw [if_neg (by omega), if_neg (by omega)] at h
  by_cases h1 : j < b
  · simp [h1, show ¬ b + k = j from by omega]
  · by_cases h2 : j < b + k
    · rw [if_neg h1, if_pos (by omega), if_neg h1, if_pos h2, Nat.testBit_mod_two_pow, Nat.testBit_mod_two_pow]
      simp [show j - b < k + 1 from by omega, show j - b < k from by omega, show ¬ b + k = j from by omega]
    · by_cases h3 : j = b + k
      · subst h3
        rw [if_neg h1, if_pos (by omega), if_neg h1, if_neg h2, Nat.testBit_mod_two_pow]
        rw [show b + k - b = k from by omega]
        cases hx : x.testBit (b + k) <;> cases hv : v.testBit k <;> simp_all
      · rw [if_neg h1, if_neg (by omega), if_neg h1, if_neg h2]
        simp [show ¬ b + k = j from fun e => h3 e.symm]

theorem u64_lt_put (x b k v : Nat) (hx : x < 18446744073709551616) (h : b + k ≤ 64) : putN x b k (v % 2 ^ k) < 18446744073709551616 :=
  putN_lt x b k _ hx h (Nat.mod_lt _ (two_pow_pos k))

theorem bits_ne (x i v j : Nat) (hx : x < 18446744073709551616) (hv : v < 18446744073709551616) :
    (bits .and .u64 ((x : Int) / 2 ^ i) 1 != bits .and .u64 ((v : Int) / 2 ^ j) 1) = decide (x.testBit i ≠ v.testBit j) := by
  rw [and_one x i hx, and_one v j hv, Bool.eq_iff_iff]
  have h1 := test_bit_eq x i
  have h2 := test_bit_eq v j
  have h3 : x / 2 ^ i % 2 < 2 := Nat.mod_lt _ (by omega)
  have h4 : v / 2 ^ j % 2 < 2 := Nat.mod_lt _ (by omega)
  generalize x / 2 ^ i % 2 = y at *
  generalize v / 2 ^ j % 2 = z at *
  cases hb : x.testBit i <;> cases hc : v.testBit j <;> simp_all <;> omega

theorem xor_turn (x i : Nat) (hx : x < 18446744073709551616) (hi : i < 64) :
    bits .xor .u64 (x : Int) (IntKind.u64.wrap (2 ^ i)) = ((x ^^^ 2 ^ i : Nat) : Int) := by
  have h4 : ((2 ^ i : Nat) : Int) = (2 : Int) ^ i := by simp
  have h5 : 2 ^ i < 18446744073709551616 := by
    have := Nat.pow_lt_pow_right (a := 2) (by omega) hi
    simpa using this
  rw [← h4]
  generalize 2 ^ i = z at *
  rw [IntKind.wrap_u64, Int.emod_eq_of_lt (by omega) (by omega), bits_xor_u64_nat _ _ hx h5]

theorem and_mask_lt (v : Int) (m : Nat) (h0 : 0 ≤ v) (h1 : v < 18446744073709551616) (hm : m ≤ 64) :
    ∃ u : Nat, bits .and .u64 v (maskI (m : Int)) = (u : Int) ∧ u < 2 ^ m ∧ u < 18446744073709551616 ∧ u ≤ v.toNat ∧ u = v.toNat % 2 ^ m :=
  ⟨v.toNat % 2 ^ m, and_mask v m h0 h1 hm, Nat.mod_lt _ (two_pow_pos m), Nat.lt_of_lt_of_le (Nat.mod_lt _ (two_pow_pos m)) (two_pow_le_64 hm), Nat.mod_le _ _, rfl⟩

theorem mod_nat (v n : Int) (h : 1 ≤ n) : ∃ m : Nat, v % n = (m : Int) ∧ (m : Int) < n := by
  have h2 := Int.emod_nonneg v (show n ≠ 0 by omega)
  have h3 := Int.emod_lt_of_pos v (show 0 < n by omega)
  exact ⟨(v % n).toNat, by omega, by omega⟩

end Go.Proofs.YtaecapjicphdkaaGreat
