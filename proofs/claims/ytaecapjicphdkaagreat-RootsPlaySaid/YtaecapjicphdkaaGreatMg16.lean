/- The document's stack: Top, Below, Fill, List, walked. -/
import Derived.Test.YtaecapjicphdkaaGreatMg03
import Derived.Test.YtaecapjicphdkaaGreatMg05
import Derived.Test.YtaecapjicphdkaaGreatMg06
import Derived.Test.YtaecapjicphdkaaGreatMg15
import Derived.LoopTactic
import Derived.Deep.RegionHeld3
import Derived.Deep.DrawnRows
namespace Go.Proofs.YtaecapjicphdkaaGreat
set_option linter.unusedVariables false
set_option linter.unusedSimpArgs false
open Go Go.RowKit
set_option maxRecDepth 100000
attribute [local go_sem ↓] Go.wp_at_zero Go.wp_at_succ
set_option maxHeartbeats 1000000

@[go_sem] theorem rhead_field (a b : Int) (w : World) : Sem.run Tryz.prog (Instr.field 174 (.agg #[.int .i64 a, .int .i64 b]) 0) w = .ok (.int .i64 a) w := by kernel_rfl
def rstackOf (g : Nat) (h lk n : Int) : Array Value := #[.pointer (some ⟨g, 0, none⟩), .int .i64 h, .int .i64 lk, .int .i64 n]
section
variable {w : World} {S g b N hd lk n : Nat} {l : List Int} {c : Int}
theorem rtop_c (v : Int) (hS : Has w S (rstackOf g hd lk n) 136) (v0 : 0 ≤ v) (v1 : v < 18446744073709551616) :
    Calls Tryz.prog 67 #[.pointer (some ⟨S, 0, none⟩), .int .u64 v] w fun e w' => e = .returned (.int .i64 (topI n v)) ∧ Keeps w w' := by
  obtain ⟨i, hi⟩ : ∃ i, v % 4294967296 - 1 = i := ⟨_, rfl⟩
  have hI := Lib.hid hi
  have HS := hS
  unfold topI
  rw [hi]
  clear hi
  by_cases h : i < n
  · rw [if_pos h]
    have h2 : ¬ (n : Int) ≤ i := by omega
    go_enter Tryz.func67, Tryz.ntmps67
    go_wp2_with (go_at_call 113; refine (rgetHead_c _ _ v0 v1).mono ?_; rintro e w' ⟨rfl, hk5⟩; rw [hI.out]; have HS := HS.keeps hk5; have FX_ := (HS).facts; simp only [blockFacts, listFacts, cellsAt, Nat.reduceAdd, and_true, true_and, and_assoc, rstackOf] at FX_)
    go_ret
    exact ⟨rfl, by ((repeat' (first | (with_reducible exact Keeps.refl _) | (with_reducible assumption) | (with_reducible refine Keeps.drewN ?_ _) | (with_reducible refine Keeps.drew ?_) | (with_reducible refine Keeps.alloc ?_ _) | (with_reducible refine Keeps.setCell ?_ ?_ _) | (with_reducible refine Keeps.trans ?_ (After.keeps _)) | (with_reducible refine Keeps.trans ?_ (by with_reducible assumption)) | go_size)); (first | done | fail))⟩
  · rw [if_neg h]
    have h2 : (n : Int) ≤ i := by omega
    go_enter Tryz.func67, Tryz.ntmps67
    go_wp2_with (go_at_call 113; refine (rgetHead_c _ _ v0 v1).mono ?_; rintro e w' ⟨rfl, hk5⟩; rw [hI.out]; have HS := HS.keeps hk5; have FX_ := (HS).facts; simp only [blockFacts, listFacts, cellsAt, Nat.reduceAdd, and_true, true_and, and_assoc, rstackOf] at FX_)
    go_ret
    exact ⟨rfl, by ((repeat' (first | (with_reducible exact Keeps.refl _) | (with_reducible assumption) | (with_reducible refine Keeps.drewN ?_ _) | (with_reducible refine Keeps.drew ?_) | (with_reducible refine Keeps.alloc ?_ _) | (with_reducible refine Keeps.setCell ?_ ?_ _) | (with_reducible refine Keeps.trans ?_ (After.keeps _)) | (with_reducible refine Keeps.trans ?_ (by with_reducible assumption)) | go_size)); (first | done | fail))⟩
theorem rbelow_c (v : Int) (hS : Has w S (rstackOf g hd lk n) 136) (v0 : 0 ≤ v) (v1 : v < 18446744073709551616) (n1 : n ≤ 9000000) :
    Calls Tryz.prog 68 #[.pointer (some ⟨S, 0, none⟩), .int .u64 v] w fun e w' => e = .returned (.int .i64 (belowI n v)) ∧ w = w' := by
  have FX_ := (hS).facts; simp only [blockFacts, listFacts, cellsAt, Nat.reduceAdd, and_true, true_and, and_assoc, rstackOf] at FX_
  unfold belowI
  have pw := wrapW_ok (n : Int) (by omega) (by omega)
  by_cases hc : (n : Int) < v
  · rw [if_pos hc]
    go_enter Tryz.func68, Tryz.ntmps68
    go_wp2
    go_ret
    exact ⟨rfl, rfl⟩
  · rw [if_neg hc]
    have h2 : v ≤ 9000000 := by omega
    go_enter Tryz.func68, Tryz.ntmps68
    go_wp2
    go_ret
    exact ⟨rfl, rfl⟩
end
/-- What the document's Fill lays. -/
def rfillTo (l : List Int) (lk n : Nat) : Nat → List Int
  | 0 => l
  | k + 1 => (rfillTo l lk n k).set (lk + k) (if k + 1 = n then 0 else (k : Int) + 2)
theorem rfillTo_length (l : List Int) (lk n : Nat) : ∀ k, (rfillTo l lk n k).length = l.length
  | 0 => rfl
  | k + 1 => by simp [rfillTo, rfillTo_length l lk n k]
theorem rfillTo_eq (l : List Int) {hd lk n : Nat} (ha : hd < lk ∨ lk + n ≤ hd) : ∀ k : Nat, k < n → rfillTo (l.set hd 1) lk n k = (fillTo l lk k).set hd 1
  | 0, _ => rfl
  | k + 1, hk => by
    show (rfillTo (l.set hd 1) lk n k).set (lk + k) (if k + 1 = n then 0 else (k : Int) + 2) = ((fillTo l lk k).set (lk + k) ((k : Int) + 2)).set hd 1
    rw [rfillTo_eq l ha k (by omega), if_neg (by omega), List.set_comm _ _ (by omega)]
theorem rfill_eq (l : List Int) {hd lk n : Nat} (ha : hd < lk ∨ lk + n ≤ hd) (hn : 1 ≤ n) : rfillTo (l.set hd 1) lk n n = stFill hd lk n l := by
  obtain ⟨m, rfl⟩ : ∃ m, n = m + 1 := ⟨n - 1, by omega⟩
  show (rfillTo (l.set hd 1) lk (m + 1) m).set (lk + m) (if m + 1 = m + 1 then 0 else (m : Int) + 2) = _
  rw [rfillTo_eq l ha m (by omega), if_pos rfl]
  unfold stFill
  show _ = (((fillTo l lk m).set (lk + m) ((m : Int) + 2)).set (lk + (m + 1) - 1) 0).set hd 1
  rw [show lk + (m + 1) - 1 = lk + m by omega, List.set_set, List.set_comm _ _ (by omega)]
section
variable {w : World} {S g b N hd lk n : Nat} {l : List Int} {c : Int}
theorem rfill_c (hS : Has w S (rstackOf g hd lk n) 136) (M : RMem w g b N l c) (h1 : 1 ≤ n) (h2 : n ≤ 4096) (h3 : lk + n ≤ N) (h4 : hd < N) (ha : hd < lk ∨ lk + n ≤ hd) :
    Calls Tryz.prog 93 #[.pointer (some ⟨S, 0, none⟩)] w fun e w' => e = .returned (.tuple #[]) ∧ Upd [b] w w' ∧ RMem w' g b N (stFill hd lk n l) c := by
  have hs := M.small
  have hlen := M.len
  have HE := Lib.hid (rfill_eq l ha h1)
  have nSb : S ≠ b := hS.ne M.hb (by decide)
  have nSg : S ≠ g := hS.ne M.hg (by decide)
  have ngb : g ≠ b := M.ne
  have HS := hS
  have MM := M
  clear ha
  go_enter Tryz.func93, Tryz.ntmps93
  go_wp2_with (go_at_call 129; refine (rputHead_c _ _ _).mono ?_; rintro e w' ⟨rfl, hk5⟩; rw [headI_00]; have HS := HS.keeps hk5; have MM := MM.keeps hk5; have K0 := hk5)
  have lb0 : (hd : Int) < N := by omega
  have h00 : (0 : Int) ≤ (hd : Int) := by omega
  have HMg := MM.hg
  have HMb := MM.hb
  have e0 : (u64s l)[hd]? = some (.int .u64 (l.getD hd 0)) := u64s_at (getD_some (by omega))
  have hfr := HMb.frozen hd
  have hce := HMb.cellv e0
  go_region_held3 (fun y => (y.cell? ⟨S, 0, none⟩ = some (.pointer (some ⟨g, 0, none⟩)) ∧ y.cell? ⟨g, 0, none⟩ = some (.slice (some ⟨b, 0, none⟩) N N)) ∧ y.cell? ⟨S, 1, none⟩ = some (.int .i64 hd)) (((repeat' (with_reducible apply And.intro)) <;> (apply Has.cellv; (focus ((repeat (first | (with_reducible assumption) | (with_reducible exact Has.new _ _ _) | (with_reducible exact Has.new1 _ _ _ _) | (with_reducible exact Has.new2 _ _ _ _ _) | (with_reducible refine Has.newAt ?_; (simp; done)) | (with_reducible apply Has.set) | (with_reducible apply Has.far; (case hn => first | assumption | (simp; done) | (intro e_; simp at e_; omega))) | (with_reducible apply Has.alloc) | (with_reducible apply Has.drewN) | (with_reducible apply Has.drew) | (with_reducible refine Has.keeps ?_ (by with_reducible assumption)))))); (first | (with_reducible assumption) | rfl | (simp; done) | fail)))) (fail)
  have M2 : RMem (w'.setCell ⟨b, hd, none⟩ (.int .u64 1)).drew g b N (l.set hd 1) c := ⟨(HMg.far ngb _).drew, (((HMb.set hd (.int .u64 1)).congr (u64s_set _ _ _))).drew, by rw [List.length_set]; exact hlen, hs, M.c0, M.c1⟩
  have HS2 : Has (w'.setCell ⟨b, hd, none⟩ (.int .u64 1)).drew S (rstackOf g hd lk n) 136 := (HS.far nSb _).drew
  have hU : Upd [b] w (w'.setCell ⟨b, hd, none⟩ (.int .u64 1)).drew := ((Upd.of_keeps K0).setCell (.inl (by simp)) _).drew
  have AA := Lib.hid (And.intro M2 (And.intro HS2 hU))
  clear M2 HS2 hU HS MM K0 HMg HMb hfr hce e0 hS M
  go_wp2
  go_loopw [4] (fun iv wr => ∃ k : Nat, k ≤ n ∧ iv = .int .i64 k ∧ RMem wr g b N (rfillTo (l.set hd 1) lk n k) c ∧ Has wr S (rstackOf g hd lk n) 136 ∧ Upd [b] w wr) (fun iv _ => n - (intOf iv).toNat)
  case atStart => exact ⟨0, by omega, rfl, AA.out.1, AA.out.2.1, AA.out.2.2⟩
  case round =>
    clear AA
    obtain ⟨k, hk, rfl, M, HS, hU⟩ := hrel
    have hlen2 := rfillTo_length (l.set hd 1) lk n k
    rw [List.length_set] at hlen2
    have HMg := M.hg
    have HMb := M.hb
    have FX_ := (HS).facts; simp only [blockFacts, listFacts, cellsAt, Nat.reduceAdd, and_true, true_and, and_assoc, rstackOf] at FX_
    by_cases hlt : k < n
    · have hlt' : (k : Int) < n := by omega
      have pw := wrapI_ok ((lk : Int) + k) (by omega) (by omega)
      have pw2 := wrapI_ok ((k : Int) + 2) (by omega) (by omega)
      have pw3 := wrapI_ok ((n : Int) + 1) (by omega) (by omega)
      have pw4 := wrapW_ok ((k : Int) + 2) (by omega) (by omega)
      have pw5 := wrapW_ok 0 (by omega) (by omega)
      have pw6 := wrapI_ok ((n : Int) - 1) (by omega) (by omega)
      have hq0 : (0 : Int) ≤ (lk : Int) + k := by omega
      have hq1 : (lk : Int) + k < N := by omega
      have hti : ((lk : Int) + (k : Int)).toNat = lk + k := by omega
      have e0 : (u64s (rfillTo (l.set hd 1) lk n k))[lk + k]? = some (.int .u64 ((rfillTo (l.set hd 1) lk n k).getD (lk + k) 0)) := u64s_at (getD_some (by omega))
      have hfr := HMb.frozen (lk + k)
      have hce := HMb.cellv e0
      have ngb' : g ≠ b := ngb
      by_cases hk1 : k + 1 = n
      · have hm0 : ((k : Int) + 2).tmod ((n : Int) + 1) = 0 := by rw [show (n : Int) + 1 = (k : Int) + 2 by omega]; exact Int.tmod_self
        have hnz : ((n : Int) + 1 == 0) = false := by rw [beq_eq_false_iff_ne]; omega
        have hnz2 : ¬ ((n : Int) + 1 = 0) := by omega
        have hkn : ((k : Int) == (n : Int) - 1) = true := by rw [beq_iff_eq]; omega
        have HE2 : Hid (rfillTo (l.set hd 1) lk n (k + 1) = (rfillTo (l.set hd 1) lk n k).set (lk + k) 0) := Lib.hid (by show (rfillTo (l.set hd 1) lk n k).set (lk + k) (if k + 1 = n then 0 else (k : Int) + 2) = _; rw [if_pos hk1])
        clear hk1
        go_wp2
        go_region_held3 (fun y => ((y.cell? ⟨S, 0, none⟩ = some (.pointer (some ⟨g, 0, none⟩)) ∧ y.cell? ⟨g, 0, none⟩ = some (.slice (some ⟨b, 0, none⟩) N N)) ∧ y.cell? ⟨S, 2, none⟩ = some (.int .i64 lk)) ∧ y.cell? ⟨S, 3, none⟩ = some (.int .i64 n)) (((repeat' (with_reducible apply And.intro)) <;> (apply Has.cellv; (focus ((repeat (first | (with_reducible assumption) | (with_reducible exact Has.new _ _ _) | (with_reducible exact Has.new1 _ _ _ _) | (with_reducible exact Has.new2 _ _ _ _ _) | (with_reducible refine Has.newAt ?_; (simp; done)) | (with_reducible apply Has.set) | (with_reducible apply Has.far; (case hn => first | assumption | (simp; done) | (intro e_; simp at e_; omega))) | (with_reducible apply Has.alloc) | (with_reducible apply Has.drewN) | (with_reducible apply Has.drew) | (with_reducible refine Has.keeps ?_ (by with_reducible assumption)))))); (first | (with_reducible assumption) | rfl | (simp; done) | fail)))) (fail)
        have M2 : RMem (wr.setCell ⟨b, lk + k, none⟩ (.int .u64 (0))).drew g b N ((rfillTo (l.set hd 1) lk n k).set (lk + k) (0)) c := ⟨(HMg.far ngb _).drew, (((HMb.set (lk + k) (.int .u64 (0))).congr (u64s_set _ _ _))).drew, by rw [List.length_set]; omega, hs, M.c0, M.c1⟩
        have HS2 : Has (wr.setCell ⟨b, lk + k, none⟩ (.int .u64 (0))).drew S (rstackOf g hd lk n) 136 := (HS.far nSb _).drew
        have hU2 : Upd [b] w (wr.setCell ⟨b, lk + k, none⟩ (.int .u64 (0))).drew := (hU.setCell (.inl (by simp)) _).drew
        generalize (wr.setCell ⟨b, lk + k, none⟩ (.int .u64 0)).drew = W at *
        have HS := HS2
        have HMg := M2.hg
        have HMb := M2.hb
        have hfr := HMb.frozen (lk + k)
        have e1 : (u64s ((rfillTo (l.set hd 1) lk n k).set (lk + k) 0))[lk + k]? = some (.int .u64 0) := u64s_at (List.getElem?_set_self (by omega))
        have hce := HMb.cellv e1
        have FX_ := (HS).facts; simp only [blockFacts, listFacts, cellsAt, Nat.reduceAdd, and_true, true_and, and_assoc, rstackOf] at FX_
        go_wp2
        go_region_held3 (fun y => (y.cell? ⟨S, 0, none⟩ = some (.pointer (some ⟨g, 0, none⟩)) ∧ y.cell? ⟨g, 0, none⟩ = some (.slice (some ⟨b, 0, none⟩) N N)) ∧ y.cell? ⟨S, 2, none⟩ = some (.int .i64 lk)) (((repeat' (with_reducible apply And.intro)) <;> (apply Has.cellv; (focus ((repeat (first | (with_reducible assumption) | (with_reducible exact Has.new _ _ _) | (with_reducible exact Has.new1 _ _ _ _) | (with_reducible exact Has.new2 _ _ _ _ _) | (with_reducible refine Has.newAt ?_; (simp; done)) | (with_reducible apply Has.set) | (with_reducible apply Has.far; (case hn => first | assumption | (simp; done) | (intro e_; simp at e_; omega))) | (with_reducible apply Has.alloc) | (with_reducible apply Has.drewN) | (with_reducible apply Has.drew) | (with_reducible refine Has.keeps ?_ (by with_reducible assumption)))))); (first | (with_reducible assumption) | rfl | (simp; done) | fail)))) (fail)
        have M3 : RMem (W.setCell ⟨b, lk + k, none⟩ (.int .u64 0)).drew g b N ((rfillTo (l.set hd 1) lk n k).set (lk + k) 0) c := ⟨(HMg.far ngb _).drew, (((HMb.set (lk + k) (.int .u64 0)).congr ((u64s_set _ _ _).trans (by rw [List.set_set])))).drew, M2.len, hs, M.c0, M.c1⟩
        have HS3 : Has (W.setCell ⟨b, lk + k, none⟩ (.int .u64 0)).drew S (rstackOf g hd lk n) 136 := (HS.far nSb _).drew
        have hU3 : Upd [b] w (W.setCell ⟨b, lk + k, none⟩ (.int .u64 0)).drew := (hU2.setCell (.inl (by simp)) _).drew
        go_wp2
        go_roundw
        case rel => exact ⟨k + 1, by omega, by go_num, by rw [HE2.out]; exact M3, HS3, hU3⟩
        case measure => simp [intOf]; omega
      · have hm0 : ((k : Int) + 2).tmod ((n : Int) + 1) = (k : Int) + 2 := by
          rw [Int.tmod_eq_emod_of_nonneg (by omega)]
          exact Int.emod_eq_of_lt (by omega) (by omega)
        have hnz : ((n : Int) + 1 == 0) = false := by rw [beq_eq_false_iff_ne]; omega
        have hnz2 : ¬ ((n : Int) + 1 = 0) := by omega
        have hkn : ((k : Int) == (n : Int) - 1) = false := by rw [beq_eq_false_iff_ne]; omega
        have HE2 : Hid (rfillTo (l.set hd 1) lk n (k + 1) = (rfillTo (l.set hd 1) lk n k).set (lk + k) ((k : Int) + 2)) := Lib.hid (by show (rfillTo (l.set hd 1) lk n k).set (lk + k) (if k + 1 = n then 0 else (k : Int) + 2) = _; rw [if_neg hk1])
        clear hk1
        go_wp2
        go_region_held3 (fun y => ((y.cell? ⟨S, 0, none⟩ = some (.pointer (some ⟨g, 0, none⟩)) ∧ y.cell? ⟨g, 0, none⟩ = some (.slice (some ⟨b, 0, none⟩) N N)) ∧ y.cell? ⟨S, 2, none⟩ = some (.int .i64 lk)) ∧ y.cell? ⟨S, 3, none⟩ = some (.int .i64 n)) (((repeat' (with_reducible apply And.intro)) <;> (apply Has.cellv; (focus ((repeat (first | (with_reducible assumption) | (with_reducible exact Has.new _ _ _) | (with_reducible exact Has.new1 _ _ _ _) | (with_reducible exact Has.new2 _ _ _ _ _) | (with_reducible refine Has.newAt ?_; (simp; done)) | (with_reducible apply Has.set) | (with_reducible apply Has.far; (case hn => first | assumption | (simp; done) | (intro e_; simp at e_; omega))) | (with_reducible apply Has.alloc) | (with_reducible apply Has.drewN) | (with_reducible apply Has.drew) | (with_reducible refine Has.keeps ?_ (by with_reducible assumption)))))); (first | (with_reducible assumption) | rfl | (simp; done) | fail)))) (fail)
        have M2 : RMem (wr.setCell ⟨b, lk + k, none⟩ (.int .u64 ((k : Int) + 2))).drew g b N ((rfillTo (l.set hd 1) lk n k).set (lk + k) ((k : Int) + 2)) c := ⟨(HMg.far ngb _).drew, (((HMb.set (lk + k) (.int .u64 ((k : Int) + 2))).congr (u64s_set _ _ _))).drew, by rw [List.length_set]; omega, hs, M.c0, M.c1⟩
        have HS2 : Has (wr.setCell ⟨b, lk + k, none⟩ (.int .u64 ((k : Int) + 2))).drew S (rstackOf g hd lk n) 136 := (HS.far nSb _).drew
        have hU2 : Upd [b] w (wr.setCell ⟨b, lk + k, none⟩ (.int .u64 ((k : Int) + 2))).drew := (hU.setCell (.inl (by simp)) _).drew
        have FX2 := HS2.facts
        generalize (wr.setCell ⟨b, lk + k, none⟩ (.int .u64 ((k : Int) + 2))).drew = W at *
        have HS := HS2
        have FX_ := (HS).facts; simp only [blockFacts, listFacts, cellsAt, Nat.reduceAdd, and_true, true_and, and_assoc, rstackOf] at FX_
        clear FX2
        go_wp2
        go_roundw
        case rel => exact ⟨k + 1, by omega, by go_num, by rw [HE2.out]; exact M2, HS2, hU2⟩
        case measure => simp [intOf]; omega
    · obtain rfl : k = n := by omega
      go_wp2
      go_end0
      exact ⟨rfl, hU, by rw [← HE.out]; exact M⟩
end
end Go.Proofs.YtaecapjicphdkaaGreat
