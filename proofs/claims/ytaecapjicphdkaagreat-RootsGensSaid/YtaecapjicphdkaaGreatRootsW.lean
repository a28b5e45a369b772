/- Slots of regions (layer 11): the program's Roots, walked. -/
import Derived.Test.YtaecapjicphdkaaGreatStackD
import Derived.Test.YtaecapjicphdkaaGreatStackL
import Derived.Test.YtaecapjicphdkaaGreatLayC
import Derived.Test.YtaecapjicphdkaaGreatRefLayW
namespace Go.Proofs.YtaecapjicphdkaaGreat
set_option linter.unusedVariables false
set_option linter.unusedSimpArgs false
open Go Go.RowKit
set_option maxRecDepth 100000
set_option maxHeartbeats 1000000

theorem Upd.past {S T : List Nat} {a b c : World} (h : Upd S a b) (k : Upd T b c) (hT : ∀ x ∈ T, x ∈ S ∨ a.heap.size ≤ x) : Upd S a c :=
  ⟨k.os.trans h.os, k.tape.trans h.tape, k.output.trans h.output, Nat.le_trans h.size k.size, fun i hi hn => (k.block i (Nat.lt_of_lt_of_le hi h.size) (fun hx => by rcases hT i hx with h1 | h1; exact hn h1; omega)).trans (h.block i hi hn)⟩
def rootsOf (m : Nat) (p k d s c b : Int) (S : Nat) : Array Value := #[.pointer (some ⟨m, 0, none⟩), .int .i64 p, .int .i64 k, .int .i64 d, .int .i64 s, .int .i64 c, .int .i64 b, .pointer (some ⟨S, 0, none⟩)]
/-- A root's parts, of its word. -/
abbrev rootV (o : Int) : Value := .agg #[.int .i64 (o / 4294967296), .int .i64 (o / 65536 % 65536), .int .i64 (o / 4096 % 16), .int .i64 (o % 4096)]
def isB (i s : Int) : Bool := decide (0 ≤ i) && decide (i < s)
section
variable {w : World} {R m bb S N : Nat} {l : List Int} {cc : Int} {x : Acc} {p k d s c b : Int}
theorem ris_c (i : Int) (hR : Has w R (rootsOf m p k d s c b S) 109) :
    Calls Tryz.prog 40 #[.pointer (some ⟨R, 0, none⟩), .int .i64 i] w fun e w' => e = .returned (.bool (isB i s)) ∧ w = w' := by
  have FX_ := (hR).facts; simp only [blockFacts, listFacts, cellsAt, Nat.reduceAdd, and_true, true_and, and_assoc, rootsOf] at FX_
  by_cases h0 : 0 ≤ i
  · by_cases h1 : i < s
    · have e : isB i s = true := by simp [isB, h0, h1]
      rw [e]
      clear e
      go_enter Tryz.func40, Tryz.ntmps40
      go_wp2
      go_ret
      exact ⟨rfl, rfl⟩
    · have e : isB i s = false := by simp [isB, h0]; omega
      rw [e]
      clear e
      go_enter Tryz.func40, Tryz.ntmps40
      go_wp2
      go_ret
      exact ⟨rfl, rfl⟩
  · have e : isB i s = false := by simp [isB]; omega
    rw [e]
    clear e
    go_enter Tryz.func40, Tryz.ntmps40
    go_wp2
    go_ret
    exact ⟨rfl, rfl⟩
theorem rsload_c (i : Int) {q : Nat} {o : Int} (hR : Has w R (rootsOf m p k d s c b S) 109) (M : Mem w m bb N l cc x) (hq : crootI p k d s c b i = q) (ho : l[q]? = some o) (o0 : 0 ≤ o) (o1 : o < 18446744073709551616) (hcc : cc < 4611686018427387903) :
    Calls Tryz.prog 77 #[.pointer (some ⟨R, 0, none⟩), .int .i64 i] w fun e w' => e = .returned (.tuple #[.int .u64 o, rootV o]) ∧ Upd [m, bb] w w' ∧ ∃ x', Mem w' m bb N l (cc + 1) x' := by
  have HQ := Lib.hid hq
  have HO := Lib.hid ho
  clear hq ho
  have K0 := Keeps.refl w
  go_enter Tryz.func77, Tryz.ntmps77
  go_wp2
  refine wp_named' (fun W1 hW => ?_)
  have HB : Has W1 w.heap.size #[.int .i64 0, .int .i64 0, .int .i64 0, .int .i64 0] 45 := by rw [hW]; exact Has.new w _ _
  have K0 : Keeps w W1 := by rw [hW]; ((repeat' (first | (with_reducible exact Keeps.refl _) | (with_reducible assumption) | (with_reducible refine Keeps.drewN ?_ _) | (with_reducible refine Keeps.drew ?_) | (with_reducible refine Keeps.alloc ?_ _) | (with_reducible refine Keeps.setCell ?_ ?_ _) | (with_reducible refine Keeps.trans ?_ (After.keeps _)) | (with_reducible refine Keeps.trans ?_ (by with_reducible assumption)) | go_size)); (first | done | fail))
  have hR := hR.keeps K0
  have M := M.keeps K0
  have nBm := Has.ne HB M.hg (by decide)
  have nBb := Has.ne HB M.hb (by decide)
  have HK := Keeps.refl W1
  have nRS : R ∉ [m, bb] := by simp only [List.mem_cons, List.not_mem_nil, or_false, not_or]; exact ⟨Has.ne hR M.hg (by decide), Has.ne hR M.hb (by decide)⟩
  clear hW
  go_region_held3 (fun y => ((((((y.cell? ⟨R, 0, none⟩ = some (.pointer (some ⟨m, 0, none⟩)) ∧ y.cell? ⟨R, 1, none⟩ = some (.int .i64 p)) ∧ y.cell? ⟨R, 2, none⟩ = some (.int .i64 k)) ∧ y.cell? ⟨R, 3, none⟩ = some (.int .i64 d)) ∧ y.cell? ⟨R, 4, none⟩ = some (.int .i64 s)) ∧ y.cell? ⟨R, 5, none⟩ = some (.int .i64 c)) ∧ y.cell? ⟨R, 6, none⟩ = some (.int .i64 b))) (((repeat' (with_reducible apply And.intro)) <;> (apply Has.cellv; (focus ((repeat (first | (with_reducible assumption) | (with_reducible exact Has.new _ _ _) | (with_reducible exact Has.new1 _ _ _ _) | (with_reducible exact Has.new2 _ _ _ _ _) | (with_reducible refine Has.newAt ?_; (simp; done)) | (with_reducible apply Has.set) | (with_reducible apply Has.far; (case hn => first | assumption | (simp; done) | (intro e_; simp at e_; omega))) | (with_reducible apply Has.alloc) | (with_reducible apply Has.drewN) | (with_reducible apply Has.drew) | (with_reducible refine Has.keeps ?_ (by with_reducible assumption)))))); (first | (with_reducible assumption) | rfl | (simp; done) | fail))))
    (first
      | (go_at_call 47; refine (lcroot_c _ _ _ _ _ _ _ _).mono ?_; rintro e w' ⟨rfl, hk5⟩; rw [HQ.out]; have hR := (hR.keeps (by ((repeat' (first | (with_reducible exact Keeps.refl _) | (with_reducible assumption) | (with_reducible refine Keeps.drewN ?_ _) | (with_reducible refine Keeps.drew ?_) | (with_reducible refine Keeps.alloc ?_ _) | (with_reducible refine Keeps.setCell ?_ ?_ _) | (with_reducible refine Keeps.trans ?_ (After.keeps _)) | (with_reducible refine Keeps.trans ?_ (by with_reducible assumption)) | go_size)); (first | done | fail)))).keeps hk5; have HK := (HK.drew).trans hk5)
      | (go_at_call 118; refine (mload_in (M.keeps HK) q HO.out hcc).mono ?_; rintro e w' ⟨rfl, hu, M2⟩; have hR := hR.upd hu nRS))
  have HB := (HB.keeps HK).upd hu (by simp only [List.mem_cons, List.not_mem_nil, or_false, not_or]; exact ⟨nBm, nBb⟩)
  have U1 := ((Upd.of_keeps (K0.trans HK)).trans hu)
  go_wp2_with (go_at_call 45; refine (getRoot_c _ _ o0 o1).mono ?_; rintro e w' ⟨rfl, hk6⟩; have HB := HB.keeps hk6; have U1 := U1.trans (Upd.of_keeps hk6); have M2 := M2.keeps hk6; have FX_ := (HB).facts; simp only [blockFacts, listFacts, cellsAt, Nat.reduceAdd, and_true, true_and, and_assoc] at FX_)
  refine bodyPost_ret (v := .tuple #[.int .u64 o, rootV o]) (by simp [results, Tryz.results77, go_sem, FX_]) rfl ?_
  generalize hWf : World.setCell _ _ _ = Wf
  have hS : Upd [w.heap.size] w' Wf := by rw [← hWf]; (repeat (first | (with_reducible exact Upd.refl _ _) | (with_reducible assumption) | (with_reducible refine Upd.setCell ?_ (by first | (left; simp; done) | (right; go_size)) _) | (with_reducible refine Upd.alloc ?_ _) | (with_reducible refine Upd.drewN ?_ _) | (with_reducible refine Upd.drew ?_)))
  refine ⟨rfl, U1.past hS (by intro y hy; simp only [List.mem_cons, List.not_mem_nil, or_false] at hy; right; omega), _, M2.upd hS (by simp; exact fun e => nBm e.symm) (by simp; exact fun e => nBb e.symm)⟩
theorem rsRoot_c (i : Int) {o : Int} (hR : Has w R (rootsOf m p k d s c b S) 109) (hP : ∀ w1, Keeps w w1 → Calls Tryz.prog 46 #[.pointer (some ⟨m, 0, none⟩), .int .i64 (crootI p k d s c b i)] w1 fun e w' => e = .returned (.int .u64 o) ∧ w1 = w') (o0 : 0 ≤ o) (o1 : o < 18446744073709551616) :
    Calls Tryz.prog 15 #[.pointer (some ⟨R, 0, none⟩), .int .i64 i] w fun e w' => e = .returned (rootV o) ∧ Keeps w w' := by
  have HP := Lib.hid hP
  clear hP
  have K0 := Keeps.refl w
  go_enter Tryz.func15, Tryz.ntmps15
  go_wp2
  refine wp_named' (fun W1 hW => ?_)
  have HB : Has W1 w.heap.size #[.int .i64 0, .int .i64 0, .int .i64 0, .int .i64 0] 45 := by rw [hW]; exact Has.new w _ _
  have K0 : Keeps w W1 := by rw [hW]; ((repeat' (first | (with_reducible exact Keeps.refl _) | (with_reducible assumption) | (with_reducible refine Keeps.drewN ?_ _) | (with_reducible refine Keeps.drew ?_) | (with_reducible refine Keeps.alloc ?_ _) | (with_reducible refine Keeps.setCell ?_ ?_ _) | (with_reducible refine Keeps.trans ?_ (After.keeps _)) | (with_reducible refine Keeps.trans ?_ (by with_reducible assumption)) | go_size)); (first | done | fail))
  have hR := hR.keeps K0
  have nBR := Has.ne HB hR (by decide)
  have nBR' := nBR.symm
  have HK := Keeps.refl W1
  clear hW
  generalize hB : w.heap.size = B at *
  go_region_held3 (fun y => ((((((y.cell? ⟨R, 0, none⟩ = some (.pointer (some ⟨m, 0, none⟩)) ∧ y.cell? ⟨R, 1, none⟩ = some (.int .i64 p)) ∧ y.cell? ⟨R, 2, none⟩ = some (.int .i64 k)) ∧ y.cell? ⟨R, 3, none⟩ = some (.int .i64 d)) ∧ y.cell? ⟨R, 4, none⟩ = some (.int .i64 s)) ∧ y.cell? ⟨R, 5, none⟩ = some (.int .i64 c)) ∧ y.cell? ⟨R, 6, none⟩ = some (.int .i64 b))) (((repeat' (with_reducible apply And.intro)) <;> (apply Has.cellv; (focus ((repeat (first | (with_reducible assumption) | (with_reducible exact Has.new _ _ _) | (with_reducible exact Has.new1 _ _ _ _) | (with_reducible exact Has.new2 _ _ _ _ _) | (with_reducible refine Has.newAt ?_; (simp; done)) | (with_reducible apply Has.set) | (with_reducible apply Has.far; (case hn => first | assumption | (simp; done) | (intro e_; simp at e_; omega))) | (with_reducible apply Has.alloc) | (with_reducible apply Has.drewN) | (with_reducible apply Has.drew) | (with_reducible refine Has.keeps ?_ (by with_reducible assumption)))))); (first | (with_reducible assumption) | rfl | (simp; done) | fail))))
    (first
      | (go_at_call 47; refine (lcroot_c _ _ _ _ _ _ _ _).mono ?_; rintro e w' ⟨rfl, hk5⟩; have hR := (hR.keeps (by ((repeat' (first | (with_reducible exact Keeps.refl _) | (with_reducible assumption) | (with_reducible refine Keeps.drewN ?_ _) | (with_reducible refine Keeps.drew ?_) | (with_reducible refine Keeps.alloc ?_ _) | (with_reducible refine Keeps.setCell ?_ ?_ _) | (with_reducible refine Keeps.trans ?_ (After.keeps _)) | (with_reducible refine Keeps.trans ?_ (by with_reducible assumption)) | go_size)); (first | done | fail)))).keeps hk5; have HK := (HK.drew).trans hk5)
      | (go_at_call 46; refine (HP.out _ (K0.trans HK)).mono ?_; rintro e w' ⟨rfl, rfl⟩)
      | (go_at_call 45; refine (getRoot_c _ _ o0 o1).mono ?_; rintro e w' ⟨rfl, hk6⟩; have hR := hR.keeps hk6; have HK := HK.trans hk6; have HB := HB.keeps HK; have FX_ := (HB).facts; simp only [blockFacts, listFacts, cellsAt, Nat.reduceAdd, and_true, true_and, and_assoc] at FX_))
  all_goals go_wp2
  refine bodyPost_ret (v := rootV o) (by simp [results, Tryz.results15, go_sem, FX_]) rfl ?_
  exact ⟨rfl, (K0.trans HK).setCell (by rw [hB]; exact Nat.le_refl _) _ |>.setCell (by rw [hB]; exact Nat.le_refl _) _ |>.setCell (by rw [hB]; exact Nat.le_refl _) _ |>.setCell (by rw [hB]; exact Nat.le_refl _) _⟩
theorem rsSpare_c (hR : Has w R (rootsOf m p k d s c b S) 109) {hd lk n : Nat} (hS : Has w S (stackOf m hd lk n) 143) (M : Mem w m bb N l cc x) (L : StOk hd lk n N l) :
    Calls Tryz.prog 18 #[.pointer (some ⟨R, 0, none⟩)] w fun e w' => ∃ v', e = .returned v' ∧ Keeps w w' ∧ Row w.heap.size 3 w' v' (ivals (stList hd lk n l)) := by
  have FX_ := (hR).facts; simp only [blockFacts, listFacts, cellsAt, Nat.reduceAdd, and_true, true_and, and_assoc, rootsOf] at FX_
  go_enter Tryz.func18, Tryz.ntmps18
  go_wp2_with (go_at_call 51; refine (list_c hS M L).mono ?_; rintro e w' ⟨v', rfl, hk, hr⟩)
  go_ret
  exact ⟨v', rfl, hk, hr⟩
end
end Go.Proofs.YtaecapjicphdkaaGreat
