/- Fill, List, a Push that is refused, walked. -/
import Derived.Test.YtaecapjicphdkaaGreatStackC
namespace Go.Proofs.YtaecapjicphdkaaGreat
set_option linter.unusedVariables false
set_option linter.unusedSimpArgs false
open Go Go.RowKit
set_option maxRecDepth 100000
attribute [local go_sem ↓] Go.wp_at_zero Go.wp_at_succ
set_option maxHeartbeats 1000000

section
variable {w : World} {S m b N hd lk n B : Nat} {l : List Int} {cc : Int} {x : Acc} {g : Nat} {v : Value} {H K : Int}
theorem mkPush_no (zs : List Int) (a : Option Addr) (cap : Nat) (hr : Reads .i64 w (.slice a zs.length cap) zs) (hcap : zs.length ≤ cap) (hS : Has w S (stackOf m H K n) 143) (hz : ¬ itemsB n zs) (hl : zs.length ≤ 1000000) :
    Calls Tryz.prog 44 #[.pointer (some ⟨S, 0, none⟩), .slice a zs.length cap] w fun e w' => e = .returned (.tuple #[.pointer none, .int .i64 1]) ∧ w = w' := by
  have hr0 := hr
  obtain ⟨a2, cap2, hv2, hrr⟩ := hr
  cases hv2
  have HR := Lib.hid hrr
  have HR0 := Lib.hid hr0
  have HZ := Lib.hid hz
  clear hrr hr0 hz
  have FX_ := (hS).facts; simp only [blockFacts, listFacts, cellsAt, Nat.reduceAdd, and_true, true_and, and_assoc, stackOf] at FX_
  go_enter Tryz.func44, Tryz.ntmps44
  go_wp2
  go_loop [11] (fun i => ∃ k : Nat, k ≤ zs.length ∧ i = .int .i64 k ∧ Hid (itemsB n (zs.take k))) (fun i => zs.length - (intOf i).toNat)
  case atStart => exact ⟨0, by omega, rfl, Lib.hid ⟨by simp, by simp⟩⟩
  case round =>
    obtain ⟨k, hk, rfl, hgood⟩ := hrel
    by_cases hlt : k < zs.length
    · obtain ⟨rb, off, rfl, hb, hc⟩ := HR.out (by rintro rfl; simp at hlt)
      have c1 := hc k zs[k] (List.getElem?_eq_getElem hlt)
      have HT := Lib.hid (reads_take HR0.out hk)
      have cp : k ≤ cap := by omega
      have HN : Hid (0 ≤ zs[k] → zs[k] < (n : Int) → ¬ zs[k] ∈ zs.take k → itemsB n (zs.take (k + 1))) := Lib.hid (fun h1 h2 h3 => by
        obtain ⟨g1, g2⟩ := hgood.out
        rw [← List.take_append_getElem hlt]
        refine ⟨fun z hz => ?_, ?_⟩
        · rcases List.mem_append.1 hz with hz | hz
          · exact g1 z hz
          · simp at hz; subst hz; exact ⟨h1, h2⟩
        · rw [List.nodup_append]
          exact ⟨g2, by simp, fun p hp q hq => by simp at hq; subst hq; rintro rfl; exact h3 hp⟩)
      clear hc
      generalize zs[k] = z at *
      by_cases z0 : z < 0
      · go_wp2
        go_ret2
        exact ⟨rfl, rfl⟩
      by_cases z1 : (n : Int) ≤ z
      · go_wp2
        go_ret2
        exact ⟨rfl, rfl⟩
      by_cases hm : z ∈ zs.take k
      · have HM := Lib.hid (decide_eq_true hm)
        clear hm
        go_wp2_with (go_at_call 81; refine (contains_c _ _ _ _ HT.out (by simp; omega)).mono ?_; rintro e w' ⟨rfl, rfl⟩; rw [HM.out])
        go_ret2
        exact ⟨rfl, rfl⟩
      · have HM := Lib.hid (decide_eq_false hm)
        have HM2 := Lib.hid hm
        clear hm
        go_wp2_with (go_at_call 81; refine (contains_c _ _ _ _ HT.out (by simp; omega)).mono ?_; rintro e w' ⟨rfl, rfl⟩; rw [HM.out])
        go_round
        case rel => exact ⟨k + 1, by omega, by go_num, Lib.hid (HN.out (by omega) (by omega) HM2.out)⟩
        case measure => simp [intOf]; omega
    · obtain rfl : k = zs.length := by omega
      have h := hgood.out
      rw [List.take_length] at h
      exact absurd h HZ.out
/-- What Fill lays. -/
def fillTo (l : List Int) (lk : Nat) : Nat → List Int
  | 0 => l
  | k + 1 => (fillTo l lk k).set (lk + k) ((k : Int) + 2)
theorem fillTo_length (l : List Int) (lk : Nat) : ∀ k, (fillTo l lk k).length = l.length
  | 0 => rfl
  | k + 1 => by simp [fillTo, fillTo_length l lk k]
def stFill (hd lk n : Nat) (l : List Int) : List Int := ((fillTo l lk n).set (lk + n - 1) 0).set hd 1
theorem headI_00 : headI 0 0 = 1 := by decide
theorem fill_c (hS : Has w S (stackOf m hd lk n) 143) (M : Mem w m b N l cc x) (h1 : 1 ≤ n) (h2 : n ≤ 4096) (h3 : lk + n ≤ N) (h4 : hd < N) :
    Calls Tryz.prog 87 #[.pointer (some ⟨S, 0, none⟩)] w fun e w' => e = .returned (.tuple #[]) ∧ Upd [m, b] w w' ∧ Mem w' m b N (stFill hd lk n l) cc x := by
  have hs := M.small
  have hlen := M.len
  have nSm : S ∉ [m, b] := by simp only [List.mem_cons, List.not_mem_nil, or_false, not_or]; exact ⟨hS.ne M.hg (by decide), hS.ne M.hb (by decide)⟩
  have FX_ := (hS).facts; simp only [blockFacts, listFacts, cellsAt, Nat.reduceAdd, and_true, true_and, and_assoc, stackOf] at FX_
  go_enter Tryz.func87, Tryz.ntmps87
  go_wp2
  go_loopw [9] (fun i wr => ∃ k : Nat, k ≤ n ∧ i = .int .i64 k ∧ Upd [m, b] w wr ∧ Mem wr m b N (fillTo l lk k) cc x ∧ Has wr S (stackOf m hd lk n) 143) (fun i _ => n - (intOf i).toNat)
  case atStart => exact ⟨0, by omega, rfl, Upd.refl _ _, M, hS⟩
  case round =>
    obtain ⟨k, hk, rfl, hu, M, HS⟩ := hrel
    by_cases hlt : k < n
    · have pw := wrapI_ok ((lk : Int) + k) (by omega) (by omega)
      have pw2 := wrapI_ok ((k : Int) + 2) (by omega) (by omega)
      have pw3 := wrapW_ok ((k : Int) + 2) (by omega) (by omega)
      have HO : Hid ((fillTo l lk k)[lk + k]? = some ((fillTo l lk k).getD (lk + k) 0)) := Lib.hid (getD_some (by rw [fillTo_length]; omega))
      have HQ : Hid ((lk : Int) + k = ((lk + k : Nat) : Int)) := Lib.hid (by omega)
      have FX_ := (HS).facts; simp only [blockFacts, listFacts, cellsAt, Nat.reduceAdd, and_true, true_and, and_assoc, stackOf] at FX_
      go_wp2
      go_region_held3 (fun y => y.cell? ⟨S, 0, none⟩ = some (.pointer (some ⟨m, 0, none⟩)) ∧ y.cell? ⟨S, 2, none⟩ = some (.int .i64 lk)) (((repeat' (with_reducible apply And.intro)) <;> (apply Has.cellv; (focus ((repeat (first | (with_reducible assumption) | (with_reducible exact Has.new _ _ _) | (with_reducible exact Has.new1 _ _ _ _) | (with_reducible exact Has.new2 _ _ _ _ _) | (with_reducible refine Has.newAt ?_; (simp; done)) | (with_reducible apply Has.set) | (with_reducible apply Has.far; (case hn => first | assumption | (simp; done) | (intro e_; simp at e_; omega))) | (with_reducible apply Has.alloc) | (with_reducible apply Has.drewN) | (with_reducible apply Has.drew) | (with_reducible refine Has.keeps ?_ (by with_reducible assumption)))))); (first | (with_reducible assumption) | rfl | (simp; done) | fail))))
        ((go_at_call 88; refine (mlay_at (M.keeps (by ((repeat' (first | (with_reducible exact Keeps.refl _) | (with_reducible assumption) | (with_reducible refine Keeps.drewN ?_ _) | (with_reducible refine Keeps.drew ?_) | (with_reducible refine Keeps.alloc ?_ _) | (with_reducible refine Keeps.setCell ?_ ?_ _) | (with_reducible refine Keeps.trans ?_ (After.keeps _)) | (with_reducible refine Keeps.trans ?_ (by with_reducible assumption)) | go_size)); (first | done | fail)))) (lk + k) _ _ HQ.out HO.out).mono ?_; rintro e w' ⟨rfl, hu2, M2⟩; have HS := (HS.keeps (by ((repeat' (first | (with_reducible exact Keeps.refl _) | (with_reducible assumption) | (with_reducible refine Keeps.drewN ?_ _) | (with_reducible refine Keeps.drew ?_) | (with_reducible refine Keeps.alloc ?_ _) | (with_reducible refine Keeps.setCell ?_ ?_ _) | (with_reducible refine Keeps.trans ?_ (After.keeps _)) | (with_reducible refine Keeps.trans ?_ (by with_reducible assumption)) | go_size)); (first | done | fail)))).upd hu2 nSm))
      go_wp2
      go_roundw
      case rel => exact ⟨k + 1, by omega, by go_num, hu.drew.trans hu2, M2, HS⟩
      case measure => simp [intOf]; omega
    · obtain rfl : k = n := by omega
      have pw := wrapI_ok ((lk : Int) + k) (by omega) (by omega)
      have pw2 := wrapI_ok ((lk : Int) + k - 1) (by omega) (by omega)
      have hL := fillTo_length l lk k
      have HO : Hid ((fillTo l lk k)[lk + k - 1]? = some ((fillTo l lk k).getD (lk + k - 1) 0)) := Lib.hid (getD_some (by omega))
      have HQ : Hid ((lk : Int) + k - 1 = ((lk + k - 1 : Nat) : Int)) := Lib.hid (by omega)
      have HO2 : Hid (((fillTo l lk k).set (lk + k - 1) 0)[hd]? = some (((fillTo l lk k).set (lk + k - 1) 0).getD hd 0)) := Lib.hid (getD_some (by simp; omega))
      have FX_ := (HS).facts; simp only [blockFacts, listFacts, cellsAt, Nat.reduceAdd, and_true, true_and, and_assoc, stackOf] at FX_
      go_wp2
      go_region_held3 (fun y => (y.cell? ⟨S, 0, none⟩ = some (.pointer (some ⟨m, 0, none⟩)) ∧ y.cell? ⟨S, 2, none⟩ = some (.int .i64 lk)) ∧ y.cell? ⟨S, 3, none⟩ = some (.int .i64 k)) (((repeat' (with_reducible apply And.intro)) <;> (apply Has.cellv; (focus ((repeat (first | (with_reducible assumption) | (with_reducible exact Has.new _ _ _) | (with_reducible exact Has.new1 _ _ _ _) | (with_reducible exact Has.new2 _ _ _ _ _) | (with_reducible refine Has.newAt ?_; (simp; done)) | (with_reducible apply Has.set) | (with_reducible apply Has.far; (case hn => first | assumption | (simp; done) | (intro e_; simp at e_; omega))) | (with_reducible apply Has.alloc) | (with_reducible apply Has.drewN) | (with_reducible apply Has.drew) | (with_reducible refine Has.keeps ?_ (by with_reducible assumption)))))); (first | (with_reducible assumption) | rfl | (simp; done) | fail))))
        ((go_at_call 88; refine (mlay_at (M.keeps (by ((repeat' (first | (with_reducible exact Keeps.refl _) | (with_reducible assumption) | (with_reducible refine Keeps.drewN ?_ _) | (with_reducible refine Keeps.drew ?_) | (with_reducible refine Keeps.alloc ?_ _) | (with_reducible refine Keeps.setCell ?_ ?_ _) | (with_reducible refine Keeps.trans ?_ (After.keeps _)) | (with_reducible refine Keeps.trans ?_ (by with_reducible assumption)) | go_size)); (first | done | fail)))) (lk + k - 1) _ _ HQ.out HO.out).mono ?_; rintro e w' ⟨rfl, hu2, M2⟩; have HS := (HS.keeps (by ((repeat' (first | (with_reducible exact Keeps.refl _) | (with_reducible assumption) | (with_reducible refine Keeps.drewN ?_ _) | (with_reducible refine Keeps.drew ?_) | (with_reducible refine Keeps.alloc ?_ _) | (with_reducible refine Keeps.setCell ?_ ?_ _) | (with_reducible refine Keeps.trans ?_ (After.keeps _)) | (with_reducible refine Keeps.trans ?_ (by with_reducible assumption)) | go_size)); (first | done | fail)))).upd hu2 nSm))
      have hu3 := hu.drew.trans hu2
      go_wp2_with (go_at_call 127; refine (putHead_c _ _ _).mono ?_; rintro e w' ⟨rfl, hk5⟩; rw [headI_00]; have HS := HS.keeps hk5; have M2 := M2.keeps hk5; have hu3 := hu3.trans (Upd.of_keeps hk5))
      go_region_held3 (fun y => y.cell? ⟨S, 0, none⟩ = some (.pointer (some ⟨m, 0, none⟩)) ∧ y.cell? ⟨S, 1, none⟩ = some (.int .i64 hd)) (((repeat' (with_reducible apply And.intro)) <;> (apply Has.cellv; (focus ((repeat (first | (with_reducible assumption) | (with_reducible exact Has.new _ _ _) | (with_reducible exact Has.new1 _ _ _ _) | (with_reducible exact Has.new2 _ _ _ _ _) | (with_reducible refine Has.newAt ?_; (simp; done)) | (with_reducible apply Has.set) | (with_reducible apply Has.far; (case hn => first | assumption | (simp; done) | (intro e_; simp at e_; omega))) | (with_reducible apply Has.alloc) | (with_reducible apply Has.drewN) | (with_reducible apply Has.drew) | (with_reducible refine Has.keeps ?_ (by with_reducible assumption)))))); (first | (with_reducible assumption) | rfl | (simp; done) | fail))))
        ((go_at_call 88; refine (mlay_in (M2.keeps (by ((repeat' (first | (with_reducible exact Keeps.refl _) | (with_reducible assumption) | (with_reducible refine Keeps.drewN ?_ _) | (with_reducible refine Keeps.drew ?_) | (with_reducible refine Keeps.alloc ?_ _) | (with_reducible refine Keeps.setCell ?_ ?_ _) | (with_reducible refine Keeps.trans ?_ (After.keeps _)) | (with_reducible refine Keeps.trans ?_ (by with_reducible assumption)) | go_size)); (first | done | fail)))) hd _ HO2.out).mono ?_; rintro e w' ⟨rfl, hu4, M3⟩; have HS := (HS.keeps (by ((repeat' (first | (with_reducible exact Keeps.refl _) | (with_reducible assumption) | (with_reducible refine Keeps.drewN ?_ _) | (with_reducible refine Keeps.drew ?_) | (with_reducible refine Keeps.alloc ?_ _) | (with_reducible refine Keeps.setCell ?_ ?_ _) | (with_reducible refine Keeps.trans ?_ (After.keeps _)) | (with_reducible refine Keeps.trans ?_ (by with_reducible assumption)) | go_size)); (first | done | fail)))).upd hu4 nSm))
      go_end0
      exact ⟨rfl, hu3.drew.trans hu4, M3⟩
end
end Go.Proofs.YtaecapjicphdkaaGreat
