/- What package stack does: the Stack's own functions. -/
import Derived.Test.YtaecapjicphdkaaGreatSlice
import Derived.Test.YtaecapjicphdkaaGreatNum
import Derived.Test.YtaecapjicphdkaaGreatMach
import Derived.Test.YtaecapjicphdkaaGreatWordW
import Derived.Deep.RegionHeld3
import Derived.Deep.DrawnRows
namespace Go.Proofs.YtaecapjicphdkaaGreat
set_option linter.unusedVariables false
set_option linter.unusedSimpArgs false
open Go Go.RowKit
set_option maxRecDepth 100000
attribute [local go_sem ↓] Go.wp_at_zero Go.wp_at_succ
set_option maxHeartbeats 1000000

theorem wp_named' {P : Program} {c : Code} {Q : Exit → Act → World → Prop} {a : Act} {w : World} (h : ∀ W, W = w → c.wp P Q a W) : c.wp P Q a w := h w rfl
theorem wrapI_ok (a : Int) (h0 : -9223372036854775808 ≤ a) (h1 : a < 9223372036854775808) : IntKind.i64.wrap a = a := by
  rw [IntKind.wrap_i64]
  omega
theorem wrapW_ok (a : Int) (h0 : 0 ≤ a) (h1 : a < 18446744073709551616) : IntKind.u64.wrap a = a := by
  simp [IntKind.wrap, IntKind.signed, IntKind.bits]
  omega
/-- A Stack's struct. -/
def stackOf (m : Nat) (h lk n : Int) : Array Value := #[.pointer (some ⟨m, 0, none⟩), .int .i64 h, .int .i64 lk, .int .i64 n]
def topI (n x : Int) : Int := if x % 4294967296 - 1 < n then x % 4294967296 - 1 else -1
def belowI (n x : Int) : Int := if n < x then -1 else x - 1
def nextI (x item : Int) : Int := headI item (tagN (x / 4294967296))
section
variable {w : World} {S m b N : Nat} {h lk n : Int} {l : List Int} {cc : Int} {x : Acc}
theorem top_c (v : Int) (hS : Has w S (stackOf m h lk n) 143) (v0 : 0 ≤ v) (v1 : v < 18446744073709551616) :
    Calls Tryz.prog 95 #[.pointer (some ⟨S, 0, none⟩), .int .u64 v] w fun e w' => e = .returned (.int .i64 (topI n v)) ∧ Keeps w w' := by
  obtain ⟨i, hi⟩ : ∃ i, v % 4294967296 - 1 = i := ⟨_, rfl⟩
  obtain ⟨t, ht⟩ : ∃ t, v / 4294967296 = t := ⟨_, rfl⟩
  have et : topI n v = if i < n then i else -1 := by unfold topI; rw [hi]
  rw [et]
  have HI := Lib.hid hi
  have HT := Lib.hid ht
  clear hi ht et
  have FX_ := (hS).facts; simp only [blockFacts, listFacts, cellsAt, Nat.reduceAdd, and_true, true_and, and_assoc, stackOf] at FX_
  have HS := hS
  go_enter Tryz.func95, Tryz.ntmps95
  go_wp2_with (go_at_call 130; refine (getHead_c _ _ v0 v1).mono ?_; rintro e w' ⟨rfl, hk⟩; rw [HI.out, HT.out]; have HS := HS.keeps hk; have k0 := hk.size)
  refine wp_named' (fun W hW => ?_)
  have HK : Keeps w W := by rw [hW]; ((repeat' (first | (with_reducible exact Keeps.refl _) | (with_reducible assumption) | (with_reducible refine Keeps.drewN ?_ _) | (with_reducible refine Keeps.drew ?_) | (with_reducible refine Keeps.alloc ?_ _) | (with_reducible refine Keeps.setCell ?_ ?_ _) | (with_reducible refine Keeps.trans ?_ (After.keeps _)) | (with_reducible refine Keeps.trans ?_ (by with_reducible assumption)) | go_size)); (first | done | fail))
  have HS := hS.keeps HK
  have HV : Has W w'.heap.size #[.int .i64 i, .int .i64 t] 187 := by rw [hW]; (apply Has.congr; (focus ((repeat (first | (with_reducible assumption) | (with_reducible exact Has.new _ _ _) | (with_reducible exact Has.new1 _ _ _ _) | (with_reducible exact Has.new2 _ _ _ _ _) | (with_reducible refine Has.newAt ?_; (simp; done)) | (with_reducible apply Has.set) | (with_reducible apply Has.far; (case hn => first | assumption | (simp; done) | (intro e_; simp at e_; omega))) | (with_reducible apply Has.alloc) | (with_reducible apply Has.drewN) | (with_reducible apply Has.drew) | (with_reducible refine Has.keeps ?_ (by with_reducible assumption)))))); (first | rfl | (simp; done)))
  clear hW
  by_cases hc : i < n
  · go_region_held3 (fun y => y.cell? ⟨w'.heap.size, 0, none⟩ = some (.int .i64 i) ∧ y.cell? ⟨S, 3, none⟩ = some (.int .i64 n)) (((repeat' (with_reducible apply And.intro)) <;> (apply Has.cellv; (focus ((repeat (first | (with_reducible assumption) | (with_reducible exact Has.new _ _ _) | (with_reducible exact Has.new1 _ _ _ _) | (with_reducible exact Has.new2 _ _ _ _ _) | (with_reducible refine Has.newAt ?_; (simp; done)) | (with_reducible apply Has.set) | (with_reducible apply Has.far; (case hn => first | assumption | (simp; done) | (intro e_; simp at e_; omega))) | (with_reducible apply Has.alloc) | (with_reducible apply Has.drewN) | (with_reducible apply Has.drew) | (with_reducible refine Has.keeps ?_ (by with_reducible assumption)))))); (first | (with_reducible assumption) | rfl | (simp; done) | fail)))) (fail)
    have FX_ := (HV).facts; simp only [blockFacts, listFacts, cellsAt, Nat.reduceAdd, and_true, true_and, and_assoc] at FX_
    go_wp2
    go_ret
    exact ⟨rfl, by ((repeat' (first | (with_reducible exact Keeps.refl _) | (with_reducible assumption) | (with_reducible refine Keeps.drewN ?_ _) | (with_reducible refine Keeps.drew ?_) | (with_reducible refine Keeps.alloc ?_ _) | (with_reducible refine Keeps.setCell ?_ ?_ _) | (with_reducible refine Keeps.trans ?_ (After.keeps _)) | (with_reducible refine Keeps.trans ?_ (by with_reducible assumption)) | go_size)); (first | done | fail))⟩
  · go_region_held3 (fun y => y.cell? ⟨w'.heap.size, 0, none⟩ = some (.int .i64 i) ∧ y.cell? ⟨S, 3, none⟩ = some (.int .i64 n)) (((repeat' (with_reducible apply And.intro)) <;> (apply Has.cellv; (focus ((repeat (first | (with_reducible assumption) | (with_reducible exact Has.new _ _ _) | (with_reducible exact Has.new1 _ _ _ _) | (with_reducible exact Has.new2 _ _ _ _ _) | (with_reducible refine Has.newAt ?_; (simp; done)) | (with_reducible apply Has.set) | (with_reducible apply Has.far; (case hn => first | assumption | (simp; done) | (intro e_; simp at e_; omega))) | (with_reducible apply Has.alloc) | (with_reducible apply Has.drewN) | (with_reducible apply Has.drew) | (with_reducible refine Has.keeps ?_ (by with_reducible assumption)))))); (first | (with_reducible assumption) | rfl | (simp; done) | fail)))) (fail)
    have FX_ := (HV).facts; simp only [blockFacts, listFacts, cellsAt, Nat.reduceAdd, and_true, true_and, and_assoc] at FX_
    go_wp2
    go_ret
    exact ⟨rfl, by ((repeat' (first | (with_reducible exact Keeps.refl _) | (with_reducible assumption) | (with_reducible refine Keeps.drewN ?_ _) | (with_reducible refine Keeps.drew ?_) | (with_reducible refine Keeps.alloc ?_ _) | (with_reducible refine Keeps.setCell ?_ ?_ _) | (with_reducible refine Keeps.trans ?_ (After.keeps _)) | (with_reducible refine Keeps.trans ?_ (by with_reducible assumption)) | go_size)); (first | done | fail))⟩
theorem below_c (v : Int) (hS : Has w S (stackOf m h lk n) 143) (v0 : 0 ≤ v) (v1 : v < 18446744073709551616) (n0 : 0 ≤ n) (n1 : n ≤ 9000000) :
    Calls Tryz.prog 96 #[.pointer (some ⟨S, 0, none⟩), .int .u64 v] w fun e w' => e = .returned (.int .i64 (belowI n v)) ∧ w = w' := by
  have FX_ := (hS).facts; simp only [blockFacts, listFacts, cellsAt, Nat.reduceAdd, and_true, true_and, and_assoc, stackOf] at FX_
  unfold belowI
  have pw := wrapW_ok n n0 (by omega)
  by_cases hc : n < v
  · rw [if_pos hc]
    go_enter Tryz.func96, Tryz.ntmps96
    go_wp2
    go_ret
    exact ⟨rfl, rfl⟩
  · rw [if_neg hc]
    have h2 : v ≤ 9000000 := by omega
    go_enter Tryz.func96, Tryz.ntmps96
    go_wp2
    go_ret
    exact ⟨rfl, rfl⟩
theorem exchange_eq (hd : Nat) (v item : Int) (hS : Has w S (stackOf m hd lk n) 143) (M : Mem w m b N l cc x) (v0 : 0 ≤ v) (v1 : v < 18446744073709551616) (ho : l[hd]? = some v) (hcc : cc < 4611686018427387903) :
    Calls Tryz.prog 144 #[.pointer (some ⟨S, 0, none⟩), .int .u64 v, .int .i64 item] w fun e w' => e = .returned (.bool true) ∧ Upd [m, b] w w' ∧ Mem w' m b N (l.set hd (nextI v item)) (cc + 1) ⟨3, hd, v, nextI v item, true⟩ := by
  obtain ⟨i, hi⟩ : ∃ i, v % 4294967296 - 1 = i := ⟨_, rfl⟩
  obtain ⟨t, ht⟩ : ∃ t, v / 4294967296 = t := ⟨_, rfl⟩
  obtain ⟨q, hq⟩ : ∃ q, nextI v item = q := ⟨_, rfl⟩
  have hq2 : headI item (tagN t) = q := by rw [← hq, ← ht]; rfl
  rw [hq]
  have HI := Lib.hid hi
  have HT := Lib.hid ht
  have HQ := Lib.hid hq2
  have HO := Lib.hid ho
  clear hi ht hq hq2 ho
  have ne_ := Has.ne hS M.hg (by decide); have ne_' := Ne.symm ne_
  have ne_ := Has.ne hS M.hb (by decide); have ne_' := Ne.symm ne_
  have FX_ := (hS).facts; simp only [blockFacts, listFacts, cellsAt, Nat.reduceAdd, and_true, true_and, and_assoc, stackOf] at FX_
  have K0 := Keeps.refl w
  go_enter Tryz.func144, Tryz.ntmps144
  go_wp2_with (first
    | (go_at_call 130; refine (getHead_c _ _ v0 v1).mono ?_; rintro e w' ⟨rfl, hk⟩; rw [HI.out, HT.out]; have K0 := K0.trans hk)
    | (go_at_call 145; refine (next_c _ _ _ _).mono ?_; rintro e w' ⟨rfl, hk⟩; have K0 := K0.trans hk)
    | (go_at_call 127; refine (putHead_c _ _ _).mono ?_; rintro e w' ⟨rfl, hk⟩; have K0 := K0.trans hk; rw [HQ.out]))
  have HS := hS.keeps K0
  have MW := M.keeps K0
  go_region_held3 (fun y => y.cell? ⟨S, 0, none⟩ = some (.pointer (some ⟨m, 0, none⟩)) ∧ y.cell? ⟨S, 1, none⟩ = some (.int .i64 hd)) (((repeat' (with_reducible apply And.intro)) <;> (apply Has.cellv; (focus ((repeat (first | (with_reducible assumption) | (with_reducible exact Has.new _ _ _) | (with_reducible exact Has.new1 _ _ _ _) | (with_reducible exact Has.new2 _ _ _ _ _) | (with_reducible refine Has.newAt ?_; (simp; done)) | (with_reducible apply Has.set) | (with_reducible apply Has.far; (case hn => first | assumption | (simp; done) | (intro e_; simp at e_; omega))) | (with_reducible apply Has.alloc) | (with_reducible apply Has.drewN) | (with_reducible apply Has.drew) | (with_reducible refine Has.keeps ?_ (by with_reducible assumption)))))); (first | (with_reducible assumption) | rfl | (simp; done) | fail))))
    ((go_at_call 120; refine (mcas_eq (MW.keeps (by ((repeat' (first | (with_reducible exact Keeps.refl _) | (with_reducible assumption) | (with_reducible refine Keeps.drewN ?_ _) | (with_reducible refine Keeps.drew ?_) | (with_reducible refine Keeps.alloc ?_ _) | (with_reducible refine Keeps.setCell ?_ ?_ _) | (with_reducible refine Keeps.trans ?_ (After.keeps _)) | (with_reducible refine Keeps.trans ?_ (by with_reducible assumption)) | go_size)); (first | done | fail)))) hd _ HO.out hcc).mono ?_; rintro e w' ⟨rfl, hu2, M2⟩; have HS := (HS.keeps (by ((repeat' (first | (with_reducible exact Keeps.refl _) | (with_reducible assumption) | (with_reducible refine Keeps.drewN ?_ _) | (with_reducible refine Keeps.drew ?_) | (with_reducible refine Keeps.alloc ?_ _) | (with_reducible refine Keeps.setCell ?_ ?_ _) | (with_reducible refine Keeps.trans ?_ (After.keeps _)) | (with_reducible refine Keeps.trans ?_ (by with_reducible assumption)) | go_size)); (first | done | fail)))).upd hu2 (by simp only [List.mem_cons, List.not_mem_nil, or_false, not_or]; (repeat' apply And.intro) <;> assumption)))
  go_wp2
  go_ret
  exact ⟨rfl, ((Upd.of_keeps K0).drew).trans hu2, M2⟩
theorem exchange_ne (hd : Nat) (v item o : Int) (hS : Has w S (stackOf m hd lk n) 143) (M : Mem w m b N l cc x) (v0 : 0 ≤ v) (v1 : v < 18446744073709551616) (ho : l[hd]? = some o) (hov : ¬ o = v) (hcc : cc < 4611686018427387903) :
    Calls Tryz.prog 144 #[.pointer (some ⟨S, 0, none⟩), .int .u64 v, .int .i64 item] w fun e w' => e = .returned (.bool false) ∧ Upd [m, b] w w' ∧ Mem w' m b N l (cc + 1) ⟨3, hd, o, o, false⟩ := by
  obtain ⟨i, hi⟩ : ∃ i, v % 4294967296 - 1 = i := ⟨_, rfl⟩
  obtain ⟨t, ht⟩ : ∃ t, v / 4294967296 = t := ⟨_, rfl⟩
  obtain ⟨q, hq2⟩ : ∃ q, headI item (tagN t) = q := ⟨_, rfl⟩
  have HI := Lib.hid hi
  have HT := Lib.hid ht
  have HQ := Lib.hid hq2
  have HO := Lib.hid ho
  have HN : Hid ((o != v) = true) := Lib.hid (by simp [hov])
  clear hi ht hq2 ho hov
  have ne_ := Has.ne hS M.hg (by decide); have ne_' := Ne.symm ne_
  have ne_ := Has.ne hS M.hb (by decide); have ne_' := Ne.symm ne_
  have FX_ := (hS).facts; simp only [blockFacts, listFacts, cellsAt, Nat.reduceAdd, and_true, true_and, and_assoc, stackOf] at FX_
  have K0 := Keeps.refl w
  go_enter Tryz.func144, Tryz.ntmps144
  go_wp2_with (first
    | (go_at_call 130; refine (getHead_c _ _ v0 v1).mono ?_; rintro e w' ⟨rfl, hk⟩; rw [HI.out, HT.out]; have K0 := K0.trans hk)
    | (go_at_call 145; refine (next_c _ _ _ _).mono ?_; rintro e w' ⟨rfl, hk⟩; have K0 := K0.trans hk)
    | (go_at_call 127; refine (putHead_c _ _ _).mono ?_; rintro e w' ⟨rfl, hk⟩; have K0 := K0.trans hk; rw [HQ.out]))
  have HS := hS.keeps K0
  have MW := M.keeps K0
  go_region_held3 (fun y => y.cell? ⟨S, 0, none⟩ = some (.pointer (some ⟨m, 0, none⟩)) ∧ y.cell? ⟨S, 1, none⟩ = some (.int .i64 hd)) (((repeat' (with_reducible apply And.intro)) <;> (apply Has.cellv; (focus ((repeat (first | (with_reducible assumption) | (with_reducible exact Has.new _ _ _) | (with_reducible exact Has.new1 _ _ _ _) | (with_reducible exact Has.new2 _ _ _ _ _) | (with_reducible refine Has.newAt ?_; (simp; done)) | (with_reducible apply Has.set) | (with_reducible apply Has.far; (case hn => first | assumption | (simp; done) | (intro e_; simp at e_; omega))) | (with_reducible apply Has.alloc) | (with_reducible apply Has.drewN) | (with_reducible apply Has.drew) | (with_reducible refine Has.keeps ?_ (by with_reducible assumption)))))); (first | (with_reducible assumption) | rfl | (simp; done) | fail))))
    ((go_at_call 120; refine (mcas_ne (MW.keeps (by ((repeat' (first | (with_reducible exact Keeps.refl _) | (with_reducible assumption) | (with_reducible refine Keeps.drewN ?_ _) | (with_reducible refine Keeps.drew ?_) | (with_reducible refine Keeps.alloc ?_ _) | (with_reducible refine Keeps.setCell ?_ ?_ _) | (with_reducible refine Keeps.trans ?_ (After.keeps _)) | (with_reducible refine Keeps.trans ?_ (by with_reducible assumption)) | go_size)); (first | done | fail)))) hd _ _ HO.out hcc HN.out).mono ?_; rintro e w' ⟨rfl, hu2, M2⟩; have HS := (HS.keeps (by ((repeat' (first | (with_reducible exact Keeps.refl _) | (with_reducible assumption) | (with_reducible refine Keeps.drewN ?_ _) | (with_reducible refine Keeps.drew ?_) | (with_reducible refine Keeps.alloc ?_ _) | (with_reducible refine Keeps.setCell ?_ ?_ _) | (with_reducible refine Keeps.trans ?_ (After.keeps _)) | (with_reducible refine Keeps.trans ?_ (by with_reducible assumption)) | go_size)); (first | done | fail)))).upd hu2 (by simp only [List.mem_cons, List.not_mem_nil, or_false, not_or]; (repeat' apply And.intro) <;> assumption)))
  go_wp2
  go_ret
  exact ⟨rfl, ((Upd.of_keeps K0).drew).trans hu2, M2⟩
end
end Go.Proofs.YtaecapjicphdkaaGreat
