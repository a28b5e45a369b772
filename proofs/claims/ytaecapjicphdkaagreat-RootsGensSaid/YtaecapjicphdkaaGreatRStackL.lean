/- The document's stack: List, walked. -/
import Derived.Test.YtaecapjicphdkaaGreatRStackW
namespace Go.Proofs.YtaecapjicphdkaaGreat
set_option linter.unusedVariables false
set_option linter.unusedSimpArgs false
open Go Go.RowKit
set_option maxRecDepth 100000
attribute [local go_sem ↓] Go.wp_at_zero Go.wp_at_succ
set_option maxHeartbeats 1000000

section
variable {w : World} {S g b N hd lk n : Nat} {l : List Int} {cc : Int}
theorem rlist_c (hS : Has w S (rstackOf g hd lk n) 136) (M : RMem w g b N l cc) (L : StOk hd lk n N l) :
    Calls Tryz.prog 27 #[.pointer (some ⟨S, 0, none⟩)] w fun e w' => ∃ v', e = .returned v' ∧ Keeps w w' ∧ Row w.heap.size 3 w' v' (ivals (stList hd lk n l)) := by
  have hl1 := L.lk1
  have hl2 := L.len
  have hl3 := L.small
  have hl4 := L.n1
  have hl5 := L.hd1
  have bt := topI_bd n (l.getD hd 0)
  have hob := L.words _ (List.mem_of_getElem? (getD_some (l := l) (i := hd) (by omega)))
  have e0 : (u64s l)[hd]? = some (.int .u64 (l.getD hd 0)) := u64s_at (getD_some (by omega))
  obtain ⟨r, hr⟩ : ∃ r, stList hd lk n l = r := ⟨_, rfl⟩
  have HRes : Hid (listFrom lk n l n (topI n (l.getD hd 0)) = r) := Lib.hid hr
  rw [hr]
  clear hr
  generalize l.getD hd 0 = hw at *
  obtain ⟨o0, o1⟩ := hob
  obtain ⟨t, ht⟩ : ∃ t, topI n hw = t := ⟨_, rfl⟩
  rw [ht] at bt HRes
  obtain ⟨bt0, bt1⟩ := bt
  have HT := Lib.hid ht
  have lb0 : (hd : Int) < N := by omega
  have h00 : (0 : Int) ≤ (hd : Int) := by omega
  clear ht
  have HS := hS
  have MW := M
  have HMg := MW.hg
  have HMb := MW.hb
  have KA := Keeps.refl w
  go_enter Tryz.func27, Tryz.ntmps27
  go_wp2
  go_region_held3 (fun y => ((y.cell? ⟨S, 0, none⟩ = some (.pointer (some ⟨g, 0, none⟩)) ∧ y.cell? ⟨g, 0, none⟩ = some (.slice (some ⟨b, 0, none⟩) N N)) ∧ y.cell? ⟨S, 1, none⟩ = some (.int .i64 hd)) ∧ y.cell? ⟨b, hd, none⟩ = some (.int .u64 hw)) (((repeat' (with_reducible apply And.intro)) <;> (apply Has.cellv; (focus ((repeat (first | (with_reducible assumption) | (with_reducible exact Has.new _ _ _) | (with_reducible exact Has.new1 _ _ _ _) | (with_reducible exact Has.new2 _ _ _ _ _) | (with_reducible refine Has.newAt ?_; (simp; done)) | (with_reducible apply Has.set) | (with_reducible apply Has.far; (case hn => first | assumption | (simp; done) | (intro e_; simp at e_; omega))) | (with_reducible apply Has.alloc) | (with_reducible apply Has.drewN) | (with_reducible apply Has.drew) | (with_reducible refine Has.keeps ?_ (by with_reducible assumption)))))); (first | (with_reducible assumption) | rfl | (simp; done) | fail))))
    ((go_at_call 67; refine (rtop_c _ (HS.keeps (by ((repeat' (first | (with_reducible exact Keeps.refl _) | (with_reducible assumption) | (with_reducible refine Keeps.drewN ?_ _) | (with_reducible refine Keeps.drew ?_) | (with_reducible refine Keeps.alloc ?_ _) | (with_reducible refine Keeps.setCell ?_ ?_ _) | (with_reducible refine Keeps.trans ?_ (After.keeps _)) | (with_reducible refine Keeps.trans ?_ (by with_reducible assumption)) | go_size)); (first | done | fail)))) o0 o1).mono ?_; rintro e w' ⟨rfl, hk5⟩; rw [HT.out]; have KA := (Keeps.drew (Keeps.refl _)).trans hk5; have HS := HS.keeps KA; have HMg := HMg.keeps KA; have HMb := HMb.keeps KA))
  have MW := M.keeps KA
  clear HMg HMb e0
  go_wp2
  go_loopw [3, 4] (fun out i wr => ∃ (k : Nat) (ys : List Int) (cur : Int), k ≤ n ∧ ys.length = k ∧ i = .int .i64 cur ∧ -1 ≤ cur ∧ cur < n ∧ Hid (ys ++ listFrom lk n l (n - k) cur = r) ∧ Row w.heap.size 3 wr out (ivals ys) ∧ Has wr S (rstackOf g hd lk n) 136 ∧ RMem wr g b N l cc ∧ Keeps w wr) (fun out _ _ => n - lenOf out)
  case atStart => exact ⟨0, [], t, by omega, rfl, rfl, bt0, bt1, Lib.hid (by simpa using HRes.out), Row.nil _ _ _, HS, MW, KA⟩
  case round =>
    clear HS MW KA hS M
    obtain ⟨k, ys, cur, hk, hky, rfl, c0, c1, hrel, R, HS, MW, K0⟩ := hrel
    obtain ⟨ad, cap, hv, _⟩ := R.reads
    rw [hky] at hv
    subst hv
    have FX_ := (HS).facts; simp only [blockFacts, listFacts, cellsAt, Nat.reduceAdd, and_true, true_and, and_assoc, rstackOf] at FX_
    by_cases hc : 0 ≤ cur
    · by_cases hlt : k < n
      · obtain ⟨q, hqn⟩ : ∃ q : Nat, ((lk : Int) + cur).toNat = q := ⟨_, rfl⟩
        have hlb := L.words _ (List.mem_of_getElem? (getD_some (l := l) (i := q) (by omega)))
        have e1 : (u64s l)[q]? = some (.int .u64 (l.getD q 0)) := u64s_at (getD_some (by omega))
        have bb := belowI_bd n _ hlb.1
        have hstep : listFrom lk n l (n - k) cur = cur :: listFrom lk n l (n - (k + 1)) (belowI n (l.getD q 0)) := by
          rw [show n - k = (n - (k + 1)) + 1 by omega, ← hqn]
          show (if cur < 0 then [] else _) = _
          rw [if_neg (by omega)]
        have HST := Lib.hid hstep
        have qq : (lk : Int) + cur = (q : Int) := by omega
        have pw := wrapI_ok ((lk : Int) + cur) (by omega) (by omega)
        have HQ := Lib.hid qq
        have hqN : (q : Int) < N := by omega
        have hq0 : (0 : Int) ≤ (q : Int) := by omega
        have hb0 : 0 ≤ (lk : Int) + cur := by omega
        have hb1 : (lk : Int) + cur < N := by omega
        clear hstep qq
        generalize l.getD q 0 = lw at *
        obtain ⟨r0, r1⟩ := hlb
        obtain ⟨u, hu⟩ : ∃ u, belowI n lw = u := ⟨_, rfl⟩
        rw [hu] at bb HST
        obtain ⟨bb0, bb1⟩ := bb
        have HU := Lib.hid hu
        clear hu
        have szr := K0.size
        go_wp2_with (at_builtin; refine wpList_append_ints (B := w.heap.size) (xs := ys) (ys := [cur]) rfl _ _ rfl _ rfl rfl (R.alloc _) (Has.src (Has.newAt (by simp)) _) (by simp; omega) (by simp; omega) ?_; intro v1 w1 R1 U1 O1)
        have HS := (HS.alloc (.cells #[.int .i64 cur] 3)).upd U1 (fun hx => R.ne HS (by decide) _ hx rfl)
        have MW := (MW.alloc (.cells #[.int .i64 cur] 3)).upd U1 (fun hx => R.ne MW.hg (by decide) _ hx rfl) (fun hx => R.ne MW.hb (by decide) _ hx rfl)
        have K1 := (K0.alloc (.cells #[.int .i64 cur] 3)).upd U1 (fun y hy => (R.own y hy).1)
        have RR := Lib.hid R1
        have KA := Keeps.refl w1
        have HMg := MW.hg
        have HMb := MW.hb
        go_region_held3 (fun y => ((y.cell? ⟨S, 0, none⟩ = some (.pointer (some ⟨g, 0, none⟩)) ∧ y.cell? ⟨g, 0, none⟩ = some (.slice (some ⟨b, 0, none⟩) N N)) ∧ y.cell? ⟨S, 2, none⟩ = some (.int .i64 lk)) ∧ y.cell? ⟨b, q, none⟩ = some (.int .u64 lw)) (((repeat' (with_reducible apply And.intro)) <;> (apply Has.cellv; (focus ((repeat (first | (with_reducible assumption) | (with_reducible exact Has.new _ _ _) | (with_reducible exact Has.new1 _ _ _ _) | (with_reducible exact Has.new2 _ _ _ _ _) | (with_reducible refine Has.newAt ?_; (simp; done)) | (with_reducible apply Has.set) | (with_reducible apply Has.far; (case hn => first | assumption | (simp; done) | (intro e_; simp at e_; omega))) | (with_reducible apply Has.alloc) | (with_reducible apply Has.drewN) | (with_reducible apply Has.drew) | (with_reducible refine Has.keeps ?_ (by with_reducible assumption)))))); (first | (with_reducible assumption) | rfl | (simp; done) | fail))))
          ((go_at_call 68; refine (rbelow_c _ (HS.keeps (by ((repeat' (first | (with_reducible exact Keeps.refl _) | (with_reducible assumption) | (with_reducible refine Keeps.drewN ?_ _) | (with_reducible refine Keeps.drew ?_) | (with_reducible refine Keeps.alloc ?_ _) | (with_reducible refine Keeps.setCell ?_ ?_ _) | (with_reducible refine Keeps.trans ?_ (After.keeps _)) | (with_reducible refine Keeps.trans ?_ (by with_reducible assumption)) | go_size)); (first | done | fail)))) r0 r1 (by omega)).mono ?_; rintro e w' ⟨rfl, rfl⟩; rw [HU.out]))
        go_wp2
        go_roundw
        case rel =>
          refine ⟨k + 1, ys ++ [cur], u, by omega, by simp [hky], rfl, bb0, bb1, Lib.hid ?_, RR.out.drew, HS.drew, MW.keeps (Keeps.refl _).drew, K1.drew⟩
          rw [List.append_assoc]; rw [← hrel.out, HST.out]; rfl
        case measure =>
          have hlv : lenOf v1 = k + 1 := by
            obtain ⟨a9, c9, hv9, _⟩ := RR.out.reads
            rw [hv9]; simp [lenOf, hky]
          rw [hlv]; simp [lenOf]; omega
      · obtain rfl : k = n := by omega
        have hres : ys = r := by have h := hrel.out; rw [Nat.sub_self] at h; simpa [listFrom] using h
        go_wp2
        go_ret
        exact ⟨_, rfl, K0, by rw [← hres]; exact R⟩
    · have hres : ys = r := by
        have h := hrel.out
        rw [show listFrom lk n l (n - k) cur = [] by cases (n - k) with | zero => rfl | succ f => show (if cur < 0 then [] else _) = _; rw [if_pos (by omega)]] at h
        simpa using h
      go_wp2
      go_ret
      exact ⟨_, rfl, K0, by rw [← hres]; exact R⟩
end
end Go.Proofs.YtaecapjicphdkaaGreat
