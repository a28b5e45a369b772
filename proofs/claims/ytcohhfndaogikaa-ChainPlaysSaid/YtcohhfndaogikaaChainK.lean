/- chain: List walked; Walk's one access. -/
import Derived.Test.YtcohhfndaogikaaChainM
namespace Go.Proofs.Ytcohhfndaogikaa
set_option linter.unusedVariables false
set_option linter.unusedSimpArgs false
open Go Go.RowKit
set_option maxRecDepth 100000
attribute [local go_sem ↓] Go.wp_at_zero Go.wp_at_succ
set_option maxHeartbeats 400000

section
variable {w : World} {m bb N X P lk K g B lb cap k : Nat} {l zs : List Int} {cc c0 : Int} {x : Acc} {p d s c b a1 o t : Int}
theorem xlist_c (first : Int) (hX : Has w X (chainOf m p K d s c b P) 114) (M : Mem w m bb N l cc x) (L : StOk 0 lk K N l) (hm : mayB p K d s c b = true) (hlk : (lk : Int) = 3 + p + s + s) (hf : inB first K = true) :
    Calls Try.prog 19 #[.pointer (some ⟨X, 0, none⟩), .int .i64 first] w fun e w' => ∃ v', e = .returned v' ∧ Keeps w w' ∧ Row w.heap.size 3 w' v' (ivals (listFrom lk K l K first)) := by
  have hl1 := L.lk1
  have hl2 := L.len
  have hl3 := L.small
  have hl4 := L.n1
  obtain ⟨f0, f1⟩ := inB_true.1 hf
  have HM := Lib.hid hm
  have HLK := Lib.hid hlk
  have HF := Lib.hid hf
  obtain ⟨r, hr⟩ : ∃ r, listFrom lk K l K first = r := ⟨_, rfl⟩
  have HRes := Lib.hid hr
  rw [hr]
  clear hr hm hlk hf
  have HX := hX
  have MW := M
  go_enter Try.func19, Try.ntmps19
  go_wp2_with (go_at_call 65; refine (chainIs_c _ HX).mono ?_; rintro e w' ⟨rfl, rfl⟩; rw [HF.out])
  go_loopw [5, 6] (fun out i wr => ∃ (k : Nat) (ys : List Int) (cur : Int), k ≤ K ∧ ys.length = k ∧ i = .int .i64 cur ∧ -1 ≤ cur ∧ cur < K ∧ Hid (ys ++ listFrom lk K l (K - k) cur = r) ∧ Row w.heap.size 3 wr out (ivals ys) ∧ Has wr X (chainOf m p K d s c b P) 114 ∧ Mem wr m bb N l cc x ∧ Keeps w wr) (fun out _ _ => K - lenOf out)
  case atStart => exact ⟨0, [], first, by omega, rfl, rfl, by omega, f1, Lib.hid (by simpa using HRes.out), Row.nil _ _ _, HX, MW, Keeps.refl _⟩
  case round =>
    clear MW HX hX M
    obtain ⟨k, ys, cur, hk, hky, rfl, q0, q1, hrel, R, HX, MW, K0⟩ := hrel
    obtain ⟨ad, cap, hv, _⟩ := R.reads
    rw [hky] at hv
    subst hv
    have FX_ := (HX).facts; simp only [blockFacts, listFacts, cellsAt, Nat.reduceAdd, and_true, true_and, and_assoc, chainOf] at FX_
    by_cases hc : 0 ≤ cur
    · by_cases hlt : k < K
      · obtain ⟨q, hqn⟩ : ∃ q : Nat, ((lk : Int) + cur).toNat = q := ⟨_, rfl⟩
        have hql : 3 + p + s + s + cur = (q : Int) := by have := HLK.out; omega
        have HQ := Lib.hid hql
        have HOl : Hid (l[q]? = some (l.getD q 0)) := Lib.hid (getD_some (by omega))
        have hlb := L.words _ (List.mem_of_getElem? HOl.out)
        have bb := belowI_bd K _ hlb.1
        have hstep : listFrom lk K l (K - k) cur = cur :: listFrom lk K l (K - (k + 1)) (belowI K (l.getD q 0)) := by
          rw [show K - k = (K - (k + 1)) + 1 by omega, ← hqn]
          show (if cur < 0 then [] else _) = _
          rw [if_neg (by omega)]
        have HST := Lib.hid hstep
        clear hstep hql hqn
        generalize l.getD q 0 = lw at *
        obtain ⟨r0, r1⟩ := hlb
        obtain ⟨u, hu⟩ : ∃ u, belowI K lw = u := ⟨_, rfl⟩
        rw [hu] at bb HST
        obtain ⟨bb0, bb1⟩ := bb
        have HU := Lib.hid hu
        clear hu
        have szr := K0.size
        go_wp2_with (at_builtin; refine wpList_append_ints (B := w.heap.size) (xs := ys) (ys := [cur]) rfl _ _ rfl _ rfl rfl (R.alloc _) (Has.src (Has.newAt (by simp)) _) (by simp; omega) (by simp; omega) ?_; intro v1 w1 R1 U1 O1)
        have HX := (HX.alloc (.cells #[.int .i64 cur] 3)).upd U1 (fun hx => R.ne HX (by decide) _ hx rfl)
        have MW := (MW.alloc (.cells #[.int .i64 cur] 3)).upd U1 (fun hx => R.ne MW.hg (by decide) _ hx rfl) (fun hx => R.ne MW.hb (by decide) _ hx rfl)
        have K1 := (K0.alloc (.cells #[.int .i64 cur] 3)).upd U1 (fun y hy => (R.own y hy).1)
        have RR := Lib.hid R1
        have KA := Keeps.refl w1
        go_region_held3 (fun y => (((((y.cell? ⟨X, 0, none⟩ = some (.pointer (some ⟨m, 0, none⟩)) ∧ y.cell? ⟨X, 1, none⟩ = some (.int .i64 p)) ∧ y.cell? ⟨X, 2, none⟩ = some (.int .i64 K)) ∧ y.cell? ⟨X, 3, none⟩ = some (.int .i64 d)) ∧ y.cell? ⟨X, 4, none⟩ = some (.int .i64 s)) ∧ y.cell? ⟨X, 5, none⟩ = some (.int .i64 c)) ∧ y.cell? ⟨X, 6, none⟩ = some (.int .i64 b)) (((repeat' (with_reducible apply And.intro)) <;> (apply Has.cellv; (focus ((repeat (first | (with_reducible assumption) | (with_reducible exact Has.new _ _ _) | (with_reducible exact Has.new1 _ _ _ _) | (with_reducible exact Has.new2 _ _ _ _ _) | (with_reducible refine Has.newAt ?_; (simp; done)) | (with_reducible apply Has.set) | (with_reducible apply Has.far; (case hn => first | assumption | (simp; done) | (intro e_; simp at e_; omega))) | (with_reducible apply Has.alloc) | (with_reducible apply Has.drewN) | (with_reducible apply Has.drew) | (with_reducible refine Has.keeps ?_ (by with_reducible assumption)))))); (first | (with_reducible assumption) | rfl | (simp; done) | fail))))
          (first
            | (go_at_call 21; refine (link_in _ _ _ _ _ _ _ _ HM.out hc q1).mono ?_; rintro e w' ⟨rfl, hk5⟩; rw [HQ.out]; have HX := (HX.keeps (by ((repeat' (first | (with_reducible exact Keeps.refl _) | (with_reducible assumption) | (with_reducible refine Keeps.drewN ?_ _) | (with_reducible refine Keeps.drew ?_) | (with_reducible refine Keeps.alloc ?_ _) | (with_reducible refine Keeps.setCell ?_ ?_ _) | (with_reducible refine Keeps.trans ?_ (After.keeps _)) | (with_reducible refine Keeps.trans ?_ (by with_reducible assumption)) | go_size)); (first | done | fail)))).keeps hk5; have KA := (KA.drew).trans hk5)
            | (go_at_call 32; refine (mpeek_in (MW.keeps KA) _ HOl.out).mono ?_; rintro e w' ⟨rfl, rfl⟩)
            | (go_at_call 66; refine (chainBehind_c _ HX r0 r1 (by omega)).mono ?_; rintro e w' ⟨rfl, rfl⟩; rw [HU.out]))
        go_wp2
        go_roundw
        case rel =>
          refine ⟨k + 1, ys ++ [cur], u, by omega, by simp [hky], rfl, bb0, bb1, Lib.hid ?_, RR.out.keeps KA, HX, MW.keeps KA, K1.trans KA⟩
          rw [List.append_assoc]; rw [← hrel.out, HST.out]; rfl
        case measure =>
          have hlv : lenOf v1 = k + 1 := by
            obtain ⟨a9, c9, hv9, _⟩ := RR.out.reads
            rw [hv9]; simp [lenOf, hky]
          rw [hlv]; simp [lenOf]; omega
      · obtain rfl : k = K := by omega
        have hres : ys = r := by have h := hrel.out; rw [Nat.sub_self] at h; simpa [listFrom] using h
        go_wp2
        go_ret
        exact ⟨_, rfl, K0, by rw [← hres]; exact R⟩
    · have hres : ys = r := by
        have h := hrel.out
        rw [show listFrom lk K l (K - k) cur = [] by cases (K - k) with | zero => rfl | succ f => show (if cur < 0 then [] else _) = _; rw [if_pos (by omega)]] at h
        simpa using h
      go_wp2
      go_ret
      exact ⟨_, rfl, K0, by rw [← hres]; exact R⟩
theorem xlist_no (first : Int) (hX : Has w X (chainOf m p K d s c b P) 114) (hf : inB first K = false) :
    Calls Try.prog 19 #[.pointer (some ⟨X, 0, none⟩), .int .i64 first] w fun e w' => e = .returned (.slice none 0 0) ∧ w = w' := by
  have HF := Lib.hid hf
  clear hf
  go_enter Try.func19, Try.ntmps19
  go_wp2_with (go_at_call 65; refine (chainIs_c _ hX).mono ?_; rintro e w' ⟨rfl, rfl⟩; rw [HF.out])
  go_ret
  exact ⟨rfl, rfl⟩
end
end Go.Proofs.Ytcohhfndaogikaa
