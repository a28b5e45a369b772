/- The document's memory as a list of words: what each call does to it. -/
import Derived.Test.YtaecapjicphdkaaGreatMem
namespace Go.Proofs.YtaecapjicphdkaaGreat
set_option linter.unusedVariables false
set_option linter.unusedSimpArgs false
open Go Go.RowKit
set_option maxRecDepth 100000

/-- The document's memory g: its words l (n of them, in block b), so many accesses. -/
structure RMem (w : World) (g b n : Nat) (l : List Int) (c : Int) : Prop where
  hg : Has w g #[.slice (some ⟨b, 0, none⟩) n n, .int .i64 c] 123
  hb : Has w b (u64s l) 99
  len : l.length = n
  small : n ≤ 9000000
  c0 : 0 ≤ c
  c1 : c ≤ 4611686018427387903
section
variable {w w' : World} {g b n : Nat} {l : List Int} {c : Int}
theorem RMem.upd {S : List Nat} (M : RMem w g b n l c) (h : Upd S w w') (h1 : g ∉ S) (h2 : b ∉ S) : RMem w' g b n l c := ⟨M.hg.upd h h1, M.hb.upd h h2, M.len, M.small, M.c0, M.c1⟩
theorem RMem.keeps (M : RMem w g b n l c) (h : Keeps w w') : RMem w' g b n l c := ⟨M.hg.keeps h, M.hb.keeps h, M.len, M.small, M.c0, M.c1⟩
theorem RMem.alloc (M : RMem w g b n l c) (o : Obj) : RMem (w.alloc o) g b n l c := M.keeps ((Keeps.refl w).alloc o)
theorem RMem.ne (M : RMem w g b n l c) : g ≠ b := M.hg.ne M.hb (by decide)
theorem RMem.lt (M : RMem w g b n l c) : g < w.heap.size ∧ b < w.heap.size := ⟨M.hg.lt, M.hb.lt⟩

theorem rmload (M : RMem w g b n l c) (i : Nat) {o : Int} (ho : l[i]? = some o) (hc : c < 4611686018427387903) :
    Calls Tryz.prog 100 #[.pointer (some ⟨g, 0, none⟩), .int .i64 i] w fun e w' => e = .returned (.int .u64 o) ∧ Upd [g, b] w w' ∧ RMem w' g b n l (c + 1) := by
  have hne := M.ne
  have hne2 : ¬ b = g := fun e => hne e.symm
  obtain ⟨hg, hb, rfl, hs, c0, c1⟩ := M
  have hi := get_lt ho
  have hcell : w.cell? ⟨b, i, none⟩ = some (.int .u64 o) := by rw [hb.cell, u64s_at ho]
  clear ho
  have HS := Lib.hid hs
  have F_ := (hg).facts; simp only [blockFacts, listFacts, cellsAt, Nat.reduceAdd, and_true, true_and, and_assoc] at F_
  go_enter Tryz.func100, Tryz.ntmps100
  go_wp2
  go_ret
  exact ⟨rfl, by (repeat (first | (with_reducible exact Upd.refl _ _) | (with_reducible assumption) | (with_reducible refine Upd.setCell ?_ (by first | (left; simp; done) | (right; go_size)) _) | (with_reducible refine Upd.alloc ?_ _) | (with_reducible refine Upd.drewN ?_ _) | (with_reducible refine Upd.drew ?_))), by (apply Has.congr; (focus ((repeat (first | (with_reducible assumption) | (with_reducible exact Has.new _ _ _) | (with_reducible exact Has.new1 _ _ _ _) | (with_reducible exact Has.new2 _ _ _ _ _) | (with_reducible refine Has.newAt ?_; (simp; done)) | (with_reducible apply Has.set) | (with_reducible apply Has.far; (case hn => first | assumption | (simp; done) | (intro e_; simp at e_; omega))) | (with_reducible apply Has.alloc) | (with_reducible apply Has.drewN) | (with_reducible apply Has.drew) | (with_reducible refine Has.keeps ?_ (by with_reducible assumption)))))); (first | rfl | (simp; done))), by (apply Has.congr; (focus ((repeat (first | (with_reducible assumption) | (with_reducible exact Has.new _ _ _) | (with_reducible exact Has.new1 _ _ _ _) | (with_reducible exact Has.new2 _ _ _ _ _) | (with_reducible refine Has.newAt ?_; (simp; done)) | (with_reducible apply Has.set) | (with_reducible apply Has.far; (case hn => first | assumption | (simp; done) | (intro e_; simp at e_; omega))) | (with_reducible apply Has.alloc) | (with_reducible apply Has.drewN) | (with_reducible apply Has.drew) | (with_reducible refine Has.keeps ?_ (by with_reducible assumption)))))); (first | rfl | (simp; done))), rfl, HS.out, by omega, by omega⟩
theorem rmstore (M : RMem w g b n l c) (i : Nat) {o : Int} (v : Int) (ho : l[i]? = some o) (hc : c < 4611686018427387903) :
    Calls Tryz.prog 104 #[.pointer (some ⟨g, 0, none⟩), .int .i64 i, .int .u64 v] w fun e w' => e = .returned (.tuple #[]) ∧ Upd [g, b] w w' ∧ RMem w' g b n (l.set i v) (c + 1) := by
  have hne := M.ne
  have hne2 : ¬ b = g := fun e => hne e.symm
  obtain ⟨hg, hb, rfl, hs, c0, c1⟩ := M
  have hi := get_lt ho
  have hcell : w.cell? ⟨b, i, none⟩ = some (.int .u64 o) := by rw [hb.cell, u64s_at ho]
  have hfr := hb.frozen
  clear ho
  have HS := Lib.hid hs
  have F_ := (hg).facts; simp only [blockFacts, listFacts, cellsAt, Nat.reduceAdd, and_true, true_and, and_assoc] at F_
  go_enter Tryz.func104, Tryz.ntmps104
  go_wp2
  go_returns
  exact ⟨rfl, by (repeat (first | (with_reducible exact Upd.refl _ _) | (with_reducible assumption) | (with_reducible refine Upd.setCell ?_ (by first | (left; simp; done) | (right; go_size)) _) | (with_reducible refine Upd.alloc ?_ _) | (with_reducible refine Upd.drewN ?_ _) | (with_reducible refine Upd.drew ?_))), by (apply Has.congr; (focus ((repeat (first | (with_reducible assumption) | (with_reducible exact Has.new _ _ _) | (with_reducible exact Has.new1 _ _ _ _) | (with_reducible exact Has.new2 _ _ _ _ _) | (with_reducible refine Has.newAt ?_; (simp; done)) | (with_reducible apply Has.set) | (with_reducible apply Has.far; (case hn => first | assumption | (simp; done) | (intro e_; simp at e_; omega))) | (with_reducible apply Has.alloc) | (with_reducible apply Has.drewN) | (with_reducible apply Has.drew) | (with_reducible refine Has.keeps ?_ (by with_reducible assumption)))))); (first | rfl | (simp; done))), by rw [← u64s_set]; (apply Has.congr; (focus ((repeat (first | (with_reducible assumption) | (with_reducible exact Has.new _ _ _) | (with_reducible exact Has.new1 _ _ _ _) | (with_reducible exact Has.new2 _ _ _ _ _) | (with_reducible refine Has.newAt ?_; (simp; done)) | (with_reducible apply Has.set) | (with_reducible apply Has.far; (case hn => first | assumption | (simp; done) | (intro e_; simp at e_; omega))) | (with_reducible apply Has.alloc) | (with_reducible apply Has.drewN) | (with_reducible apply Has.drew) | (with_reducible refine Has.keeps ?_ (by with_reducible assumption)))))); (first | rfl | (simp; done))), by simp, HS.out, by omega, by omega⟩
theorem rmcas_eq (M : RMem w g b n l c) (i : Nat) {o : Int} (v : Int) (ho : l[i]? = some o) (hc : c < 4611686018427387903) :
    Calls Tryz.prog 106 #[.pointer (some ⟨g, 0, none⟩), .int .i64 i, .int .u64 o, .int .u64 v] w fun e w' => e = .returned (.bool true) ∧ Upd [g, b] w w' ∧ RMem w' g b n (l.set i v) (c + 1) := by
  have hne := M.ne
  have hne2 : ¬ b = g := fun e => hne e.symm
  obtain ⟨hg, hb, rfl, hs, c0, c1⟩ := M
  have hi := get_lt ho
  have hcell : w.cell? ⟨b, i, none⟩ = some (.int .u64 o) := by rw [hb.cell, u64s_at ho]
  have hfr := hb.frozen
  clear ho
  have HS := Lib.hid hs
  have F_ := (hg).facts; simp only [blockFacts, listFacts, cellsAt, Nat.reduceAdd, and_true, true_and, and_assoc] at F_
  go_enter Tryz.func106, Tryz.ntmps106
  go_wp2
  go_ret
  exact ⟨rfl, by (repeat (first | (with_reducible exact Upd.refl _ _) | (with_reducible assumption) | (with_reducible refine Upd.setCell ?_ (by first | (left; simp; done) | (right; go_size)) _) | (with_reducible refine Upd.alloc ?_ _) | (with_reducible refine Upd.drewN ?_ _) | (with_reducible refine Upd.drew ?_))), by (apply Has.congr; (focus ((repeat (first | (with_reducible assumption) | (with_reducible exact Has.new _ _ _) | (with_reducible exact Has.new1 _ _ _ _) | (with_reducible exact Has.new2 _ _ _ _ _) | (with_reducible refine Has.newAt ?_; (simp; done)) | (with_reducible apply Has.set) | (with_reducible apply Has.far; (case hn => first | assumption | (simp; done) | (intro e_; simp at e_; omega))) | (with_reducible apply Has.alloc) | (with_reducible apply Has.drewN) | (with_reducible apply Has.drew) | (with_reducible refine Has.keeps ?_ (by with_reducible assumption)))))); (first | rfl | (simp; done))), by rw [← u64s_set]; (apply Has.congr; (focus ((repeat (first | (with_reducible assumption) | (with_reducible exact Has.new _ _ _) | (with_reducible exact Has.new1 _ _ _ _) | (with_reducible exact Has.new2 _ _ _ _ _) | (with_reducible refine Has.newAt ?_; (simp; done)) | (with_reducible apply Has.set) | (with_reducible apply Has.far; (case hn => first | assumption | (simp; done) | (intro e_; simp at e_; omega))) | (with_reducible apply Has.alloc) | (with_reducible apply Has.drewN) | (with_reducible apply Has.drew) | (with_reducible refine Has.keeps ?_ (by with_reducible assumption)))))); (first | rfl | (simp; done))), by simp, HS.out, by omega, by omega⟩
theorem rmcas_ne (M : RMem w g b n l c) (i : Nat) {o : Int} (q v : Int) (ho : l[i]? = some o) (hc : c < 4611686018427387903) (hq : (o != q) = true) :
    Calls Tryz.prog 106 #[.pointer (some ⟨g, 0, none⟩), .int .i64 i, .int .u64 q, .int .u64 v] w fun e w' => e = .returned (.bool false) ∧ Upd [g, b] w w' ∧ RMem w' g b n l (c + 1) := by
  have hne := M.ne
  have hne2 : ¬ b = g := fun e => hne e.symm
  obtain ⟨hg, hb, rfl, hs, c0, c1⟩ := M
  have hi := get_lt ho
  have hcell : w.cell? ⟨b, i, none⟩ = some (.int .u64 o) := by rw [hb.cell, u64s_at ho]
  have hfr := hb.frozen
  clear ho
  have HS := Lib.hid hs
  have F_ := (hg).facts; simp only [blockFacts, listFacts, cellsAt, Nat.reduceAdd, and_true, true_and, and_assoc] at F_
  go_enter Tryz.func106, Tryz.ntmps106
  go_wp2
  go_ret
  exact ⟨rfl, by (repeat (first | (with_reducible exact Upd.refl _ _) | (with_reducible assumption) | (with_reducible refine Upd.setCell ?_ (by first | (left; simp; done) | (right; go_size)) _) | (with_reducible refine Upd.alloc ?_ _) | (with_reducible refine Upd.drewN ?_ _) | (with_reducible refine Upd.drew ?_))), by (apply Has.congr; (focus ((repeat (first | (with_reducible assumption) | (with_reducible exact Has.new _ _ _) | (with_reducible exact Has.new1 _ _ _ _) | (with_reducible exact Has.new2 _ _ _ _ _) | (with_reducible refine Has.newAt ?_; (simp; done)) | (with_reducible apply Has.set) | (with_reducible apply Has.far; (case hn => first | assumption | (simp; done) | (intro e_; simp at e_; omega))) | (with_reducible apply Has.alloc) | (with_reducible apply Has.drewN) | (with_reducible apply Has.drew) | (with_reducible refine Has.keeps ?_ (by with_reducible assumption)))))); (first | rfl | (simp; done))), by (apply Has.congr; (focus ((repeat (first | (with_reducible assumption) | (with_reducible exact Has.new _ _ _) | (with_reducible exact Has.new1 _ _ _ _) | (with_reducible exact Has.new2 _ _ _ _ _) | (with_reducible refine Has.newAt ?_; (simp; done)) | (with_reducible apply Has.set) | (with_reducible apply Has.far; (case hn => first | assumption | (simp; done) | (intro e_; simp at e_; omega))) | (with_reducible apply Has.alloc) | (with_reducible apply Has.drewN) | (with_reducible apply Has.drew) | (with_reducible refine Has.keeps ?_ (by with_reducible assumption)))))); (first | rfl | (simp; done))), rfl, HS.out, by omega, by omega⟩
theorem rmnew (n : Nat) (w : World) (h1 : n ≤ 8388608) :
    Calls Tryz.prog 89 #[.int .i64 n] w fun e w' => ∃ g b : Nat, e = .returned (.pointer (some ⟨g, 0, none⟩)) ∧ Keeps w w' ∧ w.heap.size ≤ g ∧ w.heap.size ≤ b ∧ RMem w' g b n (List.replicate n 0) 0 := by
  have hmk := make_u64 n (by omega)
  go_enter Tryz.func89, Tryz.ntmps89
  go_wp2
  go_ret
  exact ⟨w.heap.size + 1, w.heap.size, rfl, by ((repeat' (first | (with_reducible exact Keeps.refl _) | (with_reducible assumption) | (with_reducible refine Keeps.drewN ?_ _) | (with_reducible refine Keeps.drew ?_) | (with_reducible refine Keeps.alloc ?_ _) | (with_reducible refine Keeps.setCell ?_ ?_ _) | (with_reducible refine Keeps.trans ?_ (After.keeps _)) | (with_reducible refine Keeps.trans ?_ (by with_reducible assumption)) | go_size)); (first | done | fail)), by omega, by omega, by (apply Has.congr; (focus ((repeat (first | (with_reducible assumption) | (with_reducible exact Has.new _ _ _) | (with_reducible exact Has.new1 _ _ _ _) | (with_reducible exact Has.new2 _ _ _ _ _) | (with_reducible refine Has.newAt ?_; (simp; done)) | (with_reducible apply Has.set) | (with_reducible apply Has.far; (case hn => first | assumption | (simp; done) | (intro e_; simp at e_; omega))) | (with_reducible apply Has.alloc) | (with_reducible apply Has.drewN) | (with_reducible apply Has.drew) | (with_reducible refine Has.keeps ?_ (by with_reducible assumption)))))); (first | rfl | (simp; done))), by (apply Has.congr; (focus ((repeat (first | (with_reducible assumption) | (with_reducible exact Has.new _ _ _) | (with_reducible exact Has.new1 _ _ _ _) | (with_reducible exact Has.new2 _ _ _ _ _) | (with_reducible refine Has.newAt ?_; (simp; done)) | (with_reducible apply Has.set) | (with_reducible apply Has.far; (case hn => first | assumption | (simp; done) | (intro e_; simp at e_; omega))) | (with_reducible apply Has.alloc) | (with_reducible apply Has.drewN) | (with_reducible apply Has.drew) | (with_reducible refine Has.keeps ?_ (by with_reducible assumption)))))); (first | rfl | (simp; done))), by simp, by omega, by omega, by omega⟩
end
end Go.Proofs.YtaecapjicphdkaaGreat
