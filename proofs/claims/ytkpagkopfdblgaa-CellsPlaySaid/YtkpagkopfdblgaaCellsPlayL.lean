/- The law CellsPlay, walked. -/
import Derived.Test.YtkpagkopfdblgaaPlay
import Derived.Deep.RegionHeld3
namespace Go.Proofs.Ytkpagkopfdblgaa
set_option linter.unusedVariables false
set_option linter.unusedSimpArgs false
open Go Go.RowKit
set_option maxRecDepth 100000
theorem rmnew_int (a : Int) (w : World) (h0 : 0 ≤ a) (h1 : a ≤ 8388608) :
    Calls Try.prog 34 #[.int .i64 a] w fun e w' => ∃ g b : Nat, e = .returned (.pointer (some ⟨g, 0, none⟩)) ∧ Keeps w w' ∧ w.heap.size ≤ g ∧ w.heap.size ≤ b ∧ RMem w' g b a.toNat (List.replicate a.toNat 0) 0 := by
  obtain ⟨n, rfl⟩ := Int.eq_ofNat_of_zero_le h0
  exact rmnew n w (by omega)
set_option maxHeartbeats 64000000 in
theorem cellsPlay_c (nn : Int) (v : Value) (zs : List (List Int)) (w : World) (hr : ReadsF [.i64, .i64, .u64, .u64] w v zs) (hz4 : ∀ z ∈ zs, z.length = 4 ∧ ∀ (i : Nat) (k : IntKind) (n : Int), [IntKind.i64, .i64, .u64, .u64][i]? = some k → z[i]? = some n → (Lit.int k n).wf = true) : Calls Try.prog 5 #[.int .i64 nn, v] w fun e w' => e = .returned (.bool true) ∧ Keeps w w' := by
  obtain ⟨a, cap, rfl, hr⟩ := hr
  have HR := Lib.hid hr
  have HZ := Lib.hid hz4
  clear hr hz4
  by_cases hl : 60 < zs.length
  · go_enter Try.func5, Try.ntmps5
    go_wp2_with (go_at_call 30; refine (cfirst_c _).mono ?_; rintro e w' ⟨rfl, K⟩)
    go_ret
    exact ⟨rfl, by ((repeat' (first | (with_reducible exact Keeps.refl _) | (with_reducible assumption) | (with_reducible refine Keeps.drewN ?_ _) | (with_reducible refine Keeps.drew ?_) | (with_reducible refine Keeps.alloc ?_ _) | (with_reducible refine Keeps.setCell ?_ ?_ _) | (with_reducible refine Keeps.trans ?_ (After.keeps _)) | (with_reducible refine Keeps.trans ?_ (by with_reducible assumption)) | go_size)); (first | done | fail))⟩
  · go_enter Try.func5, Try.ntmps5
    go_wp2_with (first
      | (go_at_call 30; refine (cfirst_c _).mono ?_; rintro e w' ⟨rfl, K⟩)
      | (go_at_call 15; refine (number_b _ _ _ (by omega) (by omega)).mono ?_; rintro e w' ⟨p, rfl, hp, rfl⟩; have HT : Hid (((1 + (p : Int)).toNat : Int) = 1 + (p : Int)) := Lib.hid (by omega))
      | (go_at_call 31; refine (mnew_int _ _ (by omega) (by omega)).mono ?_; rintro e w' ⟨g, b, rfl, hk, hg1, hb1, M⟩; have hg1 := Nat.le_trans K.size hg1; have hb1 := Nat.le_trans K.size hb1; have K := K.trans hk)
      | (go_at_call 32; refine (mlen M).mono ?_; rintro e w' ⟨rfl, rfl⟩; rw [HT.out])
      | (go_at_call 33; refine (mlast M).mono ?_; rintro e w' ⟨rfl, hk⟩; have M := M.keeps hk; have K := K.trans hk)
      | (go_at_call 34; refine (rmnew_int _ _ (by omega) (by omega)).mono ?_; rintro e w' ⟨r, rb, rfl, hk, hr1, hrb1, R⟩; have lM := M.lt; have M := M.keeps hk; have hr1' := Nat.le_trans K.size hr1; have hrb1' := Nat.le_trans K.size hrb1; have K := K.trans hk))
    have hne : b ≠ rb := by omega
    obtain ⟨n, hn⟩ : ∃ n : Nat, 1 + (p : Int) = n := ⟨p + 1, by omega⟩
    have hn2 : (1 + (p : Int)).toNat = n := by omega
    rw [hn2] at M R
    have H : Play w (w'.alloc (.cells (accOf ⟨0, 0, 0, 0, false⟩) 56)) g b r rb w'.heap.size n (List.replicate n 0) 0 ⟨0, 0, 0, 0, false⟩ := ⟨M.alloc _, R.alloc _, Has.new _ _ _, hne, K.alloc _, hg1, hb1, hr1', hrb1', K.size⟩
    have n9 : n ≤ 9 := by omega
    rw [hn]
    have lK := K.size
    generalize w'.heap.size = la at *
    clear hn hn2 M R K HT hp
    go_loopw [11] (fun i wr => ∃ (k : Nat) (l : List Int) (c : Int) (x : Acc), k ≤ zs.length ∧ i = .int .i64 k ∧ Play w wr g b r rb la n l c x ∧ c ≤ k) (fun i _ => zs.length - (intOf i).toNat)
    case atStart => exact ⟨0, _, 0, _, by omega, rfl, H, by omega⟩
    case round =>
      clear H hk
      obtain ⟨k, l, c, x, hk, rfl, H, ck⟩ := hrel
      by_cases hlt : k < zs.length
      · obtain ⟨bl, off, rfl, hb, hc⟩ := HR.out (by rintro rfl; simp at hlt)
        have hzl : zs[k].length = 4 := (HZ.out _ (List.getElem_mem hlt)).1
        obtain ⟨z0, z1, z2, z3, hz⟩ : ∃ a b c d, zs[k] = [a, b, c, d] := by
          match zs[k], hzl with
          | [a, b, c, d], _ => exact ⟨a, b, c, d, rfl⟩
        have hc0 := hc k _ (List.getElem?_eq_getElem hlt) 0 (.int .i64 z0) (by rw [hz]; rfl)
        have hc1 := hc k _ (List.getElem?_eq_getElem hlt) 1 (.int .i64 z1) (by rw [hz]; rfl)
        have hc2 := hc k _ (List.getElem?_eq_getElem hlt) 2 (.int .u64 z2) (by rw [hz]; rfl)
        have hc3 := hc k _ (List.getElem?_eq_getElem hlt) 3 (.int .u64 z3) (by rw [hz]; rfl)
        rw [← H.K.cell hb] at hc0 hc1 hc2 hc3
        have hc0 : wr.cell? ⟨bl, off + k * 4, none⟩ = some (.int .i64 z0) := hc0
        have hc1 : wr.cell? ⟨bl, off + k * 4 + 1, none⟩ = some (.int .i64 z1) := hc1
        have hc2 : wr.cell? ⟨bl, off + k * 4 + 2, none⟩ = some (.int .u64 z2) := hc2
        have hc3 : wr.cell? ⟨bl, off + k * 4 + 3, none⟩ = some (.int .u64 z3) := hc3
        have hbw := Nat.lt_of_lt_of_le hb H.K.size
        clear hc hz hzl
        go_upto_region 16 with fail
        have HD := Has.new wr #[.int .i64 z0, .int .i64 z1, .int .u64 z2, .int .u64 z3] 61
        have d1 := has_fresh H.M.hg (Nat.le_refl _)
        have d2 := has_fresh H.M.hb (Nat.le_refl _)
        have d3 := has_fresh H.R.hg (Nat.le_refl _)
        have d4 := has_fresh H.R.hb (Nat.le_refl _)
        have d5 := has_fresh H.LA (Nat.le_refl _)
        have hdw : w.heap.size ≤ wr.heap.size := H.K.size
        have H := H.keeps ((Keeps.refl wr).alloc (.cells #[.int .i64 z0, .int .i64 z1, .int .u64 z2, .int .u64 z3] 61))
        obtain ⟨dd, hdd⟩ : ∃ dd, dd = wr.heap.size := ⟨_, rfl⟩
        rw [← hdd] at HD d1 d2 d3 d4 d5 hdw
        rw [← hdd]
        clear hdd
        refine wp_named (fun W0 hW0 => ?_)
        rw [← hW0] at HD H
        clear hW0
        have cc : c < 4611686018427387903 := by omega
        have hns := H.nes
        obtain ⟨⟨g1, g2, g3⟩, ⟨b1, b2⟩, r1, rb1⟩ := hns
        have bne := H.ne
        have fD := HD.frozen
        have F_ := (HD).facts; simp only [blockFacts, listFacts, cellsAt, Nat.reduceAdd, and_true, true_and, and_assoc] at F_
        have hq : z0 % 6 = 0 ∨ z0 % 6 = 1 ∨ z0 % 6 = 2 ∨ z0 % 6 = 3 ∨ z0 % 6 = 4 ∨ z0 % 6 = 5 := by omega
        by_cases hin : 0 ≤ z1 ∧ z1 < n
        · obtain ⟨i0, i1⟩ := hin
          obtain ⟨j, rfl⟩ := Int.eq_ofNat_of_zero_le i0
          have jn : j < n := by omega
          obtain ⟨q, hq0⟩ : ∃ q, l[j]? = some q := ⟨l[j]'(by rw [H.M.len]; exact jn), List.getElem?_eq_getElem _⟩
          have HQ := Lib.hid hq0
          have hrc : W0.cell? ⟨rb, j, none⟩ = some (.int .u64 q) := by rw [H.R.hb.cell, u64s_at hq0]
          have hR := H.R.hg
          clear hq0
          have FD := F_
          have F_ := (hR).facts; simp only [blockFacts, listFacts, cellsAt, Nat.reduceAdd, and_true, true_and, and_assoc] at F_
          go_upto_region 19 with fail
          go_quiet (fail)
          rcases hq with hq | hq | hq | hq | hq | hq
          all_goals have HK := Lib.hid hq
          all_goals clear hq
          · as_aux_lemma =>
              go_upto_region 23 with fail
              refine wp_named (fun W1 hW1 => ?_)
              have KW : Keeps W0 W1 := by rw [hW1]; ((repeat' (first | (with_reducible exact Keeps.refl _) | (with_reducible assumption) | (with_reducible refine Keeps.drewN ?_ _) | (with_reducible refine Keeps.drew ?_) | (with_reducible refine Keeps.alloc ?_ _) | (with_reducible refine Keeps.setCell ?_ ?_ _) | (with_reducible refine Keeps.trans ?_ (After.keeps _)) | (with_reducible refine Keeps.trans ?_ (by with_reducible assumption)) | go_size)); (first | done | fail))
              have H := H.keeps KW
              have HD := HD.keeps KW
              clear hW1
              have F_ := (HD).facts; simp only [blockFacts, listFacts, cellsAt, Nat.reduceAdd, and_true, true_and, and_assoc] at F_
              have HN : Hid ((l)[j]? = some (q)) := Lib.hid (HQ.out)
              go_upto_region 58 with (first
                | (go_at_call 15; refine (number_c _ _ _ (by omega) (by omega)).mono ?_; rintro e w' ⟨rfl, rfl⟩; rw [HK.out])
                | (go_at_call 35; refine (mload_in H.M j HQ.out cc).mono ?_; rintro e w' ⟨rfl, hu, M1⟩; have hp := H.past1 hu M1; obtain ⟨M1, R1, LA1, K1⟩ := hp; have HD := HD.upd hu (by simp; exact ⟨d1, d2⟩); have F_ := (HD).facts; simp only [blockFacts, listFacts, cellsAt, Nat.reduceAdd, and_true, true_and, and_assoc] at F_)
                | (go_at_call 36; refine (rmload R1 j HQ.out cc).mono ?_; rintro e w' ⟨rfl, hv, R2⟩; have M1 := M1.upd hv (by simp; exact ⟨g1, g2⟩) (by simp; exact ⟨b1, bne⟩); have LA1 := LA1.upd hv (by simp; exact ⟨r1.symm, rb1.symm⟩); have K1 := K1.upd2 hv H.h3 H.h4; have HD := HD.upd hv (by simp; exact ⟨d3, d4⟩); have F_ := (HD).facts; simp only [blockFacts, listFacts, cellsAt, Nat.reduceAdd, and_true, true_and, and_assoc] at F_; have FL := LA1.facts; simp only [blockFacts, listFacts, cellsAt, accOf, Nat.reduceAdd, and_true, true_and, and_assoc] at FL; have hR1 := R2.hg; have FR := hR1.facts; simp only [blockFacts, listFacts, cellsAt, Nat.reduceAdd, and_true, true_and, and_assoc] at FR))
              refine wp_named (fun W hW => ?_)
              have hS : Upd [la] w' W := by rw [hW]; (repeat (first | (with_reducible exact Upd.refl _ _) | (with_reducible assumption) | (with_reducible refine Upd.setCell ?_ (by first | (left; simp; done) | (right; go_size)) _) | (with_reducible refine Upd.alloc ?_ _) | (with_reducible refine Upd.drewN ?_ _) | (with_reducible refine Upd.drew ?_)))
              have LA : Has W la (accOf ⟨1, j, q, q, true⟩) 56 := by rw [hW]; (apply Has.congr; (focus ((repeat (first | (with_reducible assumption) | (with_reducible exact Has.new _ _ _) | (with_reducible exact Has.new1 _ _ _ _) | (with_reducible exact Has.new2 _ _ _ _ _) | (with_reducible refine Has.newAt ?_; (simp; done)) | (with_reducible apply Has.set) | (with_reducible apply Has.far; (case hn => first | assumption | (simp; done) | (intro e_; simp at e_; omega))) | (with_reducible apply Has.alloc) | (with_reducible apply Has.drewN) | (with_reducible apply Has.drew) | (with_reducible refine Has.keeps ?_ (by with_reducible assumption)))))); (first | rfl | (simp; done)))
              have M := M1.upd hS (by simp; exact g3) (by simp; exact b2)
              have R := R2.upd hS (by simp; exact r1) (by simp; exact rb1)
              have K := K1.upd hS (by simp; exact H.h5)
              have HD := HD.upd hS (by simp; exact d5)
              clear hW
              have H2 : Play w W g b r rb la n (l) (c + 1) ⟨1, j, q, q, true⟩ := ⟨M, R, LA, bne, K, H.h1, H.h2, H.h3, H.h4, H.h5⟩
              have cc2 : c + 1 ≤ (k : Int) + 1 := by omega
              have hX : ∀ (u : After W), (u.world.cell? ⟨r, 0, none⟩ = some (.slice (some ⟨rb, 0, none⟩) n n) ∧ u.world.cell? ⟨r, 1, none⟩ = some (.int .i64 (c + 1))) ∧ u.world.cell? ⟨dd, 1, none⟩ = some (.int .i64 j) := fun u => ⟨⟨(H2.R.hg.keeps u.keeps).cell 0, (H2.R.hg.keeps u.keeps).cell 1⟩, (HD.keeps u.keeps).cell 1⟩
              have hY : ∀ (u : After W), u.world.cell? ⟨la, 0, none⟩ = some (.int .i64 ((⟨1, j, q, q, true⟩ : Acc)).kind) ∧ u.world.cell? ⟨la, 1, none⟩ = some (.int .i64 ((⟨1, j, q, q, true⟩ : Acc)).at_) ∧ u.world.cell? ⟨la, 2, none⟩ = some (.int .u64 ((⟨1, j, q, q, true⟩ : Acc)).old) ∧ u.world.cell? ⟨la, 3, none⟩ = some (.int .u64 ((⟨1, j, q, q, true⟩ : Acc)).new) ∧ u.world.cell? ⟨la, 4, none⟩ = some (.bool ((⟨1, j, q, q, true⟩ : Acc)).ok) := fun u => ⟨(H2.LA.keeps u.keeps).cell 0, (H2.LA.keeps u.keeps).cell 1, (H2.LA.keeps u.keeps).cell 2, (H2.LA.keeps u.keeps).cell 3, (H2.LA.keeps u.keeps).cell 4⟩
              (try simp only [] at hY)
              have hZ : ∀ (u : After W), u.world.cell? ⟨rb, j, none⟩ = some (.int .u64 (q)) := fun u => by rw [(H2.R.hb.keeps u.keeps).cell, u64s_at HN.out]
              (refine wp_region_after_lit (by kernel_rfl) (by kernel_rfl) ?_; (try simp only [List.append_eq, List.cons_append, List.nil_append]); (repeat (first | go_big_quiet_step ((first | (go_at_call 45; exact calls_after_same (mcount (H2.M.keeps (After.keeps _)))) | (go_at_call 33; exact calls_after (mlast (H2.M.keeps (After.keeps _)))) | (go_at_call 43; exact calls_after_same (mpeek_in (H2.M.keeps (After.keeps _)) j HN.out)))) | ((with_reducible refine wpQuiet_step (fun K hK => ?_)); go_simp; first | (refine hK _ ?_; clear hK K) | (apply Exists.intro; refine ⟨fun _ => ?_, hK _ ?_⟩; (first | (go_at_call 45; exact calls_after_same (mcount (H2.M.keeps (After.keeps _)))) | (go_at_call 33; exact calls_after (mlast (H2.M.keeps (After.keeps _)))) | (go_at_call 43; exact calls_after_same (mpeek_in (H2.M.keeps (After.keeps _)) j HN.out))); clear hK K) | (refine ⟨.bool false, fun _ => ?_, hK _ ?_⟩; (simp; done); clear hK K) | (refine ⟨.bool true, fun _ => ?_, hK _ ?_⟩; (simp; done); clear hK K)))); refine wpQuiet_nil ?_; intro _ hw'; obtain ⟨uq, hw''⟩ := hw'; subst hw'')
              go_wp2
              go_roundw
              case rel => exact ⟨k + 1, _, _, _, by omega, by go_num, H2.keeps uq.keeps, by omega⟩
              case measure => simp [intOf]; omega
          · as_aux_lemma =>
              go_upto_region 23 with fail
              refine wp_named (fun W1 hW1 => ?_)
              have KW : Keeps W0 W1 := by rw [hW1]; ((repeat' (first | (with_reducible exact Keeps.refl _) | (with_reducible assumption) | (with_reducible refine Keeps.drewN ?_ _) | (with_reducible refine Keeps.drew ?_) | (with_reducible refine Keeps.alloc ?_ _) | (with_reducible refine Keeps.setCell ?_ ?_ _) | (with_reducible refine Keeps.trans ?_ (After.keeps _)) | (with_reducible refine Keeps.trans ?_ (by with_reducible assumption)) | go_size)); (first | done | fail))
              have H := H.keeps KW
              have HD := HD.keeps KW
              clear hW1
              have F_ := (HD).facts; simp only [blockFacts, listFacts, cellsAt, Nat.reduceAdd, and_true, true_and, and_assoc] at F_
              have HN : Hid ((l.set j z2)[j]? = some (z2)) := Lib.hid (by rw [List.getElem?_set_self (get_lt HQ.out)])
              go_upto_region 58 with (first
                | (go_at_call 15; refine (number_c _ _ _ (by omega) (by omega)).mono ?_; rintro e w' ⟨rfl, rfl⟩; rw [HK.out])
                | (go_at_call 37; refine (mstore_in H.M j _ HQ.out cc).mono ?_; rintro e w' ⟨rfl, hu, M1⟩; have hp := H.past1 hu M1; obtain ⟨M1, R1, LA1, K1⟩ := hp; have HD := HD.upd hu (by simp; exact ⟨d1, d2⟩); have F_ := (HD).facts; simp only [blockFacts, listFacts, cellsAt, Nat.reduceAdd, and_true, true_and, and_assoc] at F_)
                | (go_at_call 38; refine (rmstore R1 j _ HQ.out cc).mono ?_; rintro e w' ⟨rfl, hv, R2⟩; have M1 := M1.upd hv (by simp; exact ⟨g1, g2⟩) (by simp; exact ⟨b1, bne⟩); have LA1 := LA1.upd hv (by simp; exact ⟨r1.symm, rb1.symm⟩); have K1 := K1.upd2 hv H.h3 H.h4; have HD := HD.upd hv (by simp; exact ⟨d3, d4⟩); have F_ := (HD).facts; simp only [blockFacts, listFacts, cellsAt, Nat.reduceAdd, and_true, true_and, and_assoc] at F_; have FL := LA1.facts; simp only [blockFacts, listFacts, cellsAt, accOf, Nat.reduceAdd, and_true, true_and, and_assoc] at FL; have hR1 := R2.hg; have FR := hR1.facts; simp only [blockFacts, listFacts, cellsAt, Nat.reduceAdd, and_true, true_and, and_assoc] at FR))
              refine wp_named (fun W hW => ?_)
              have hS : Upd [la] w' W := by rw [hW]; (repeat (first | (with_reducible exact Upd.refl _ _) | (with_reducible assumption) | (with_reducible refine Upd.setCell ?_ (by first | (left; simp; done) | (right; go_size)) _) | (with_reducible refine Upd.alloc ?_ _) | (with_reducible refine Upd.drewN ?_ _) | (with_reducible refine Upd.drew ?_)))
              have LA : Has W la (accOf ⟨2, j, q, z2, true⟩) 56 := by rw [hW]; (apply Has.congr; (focus ((repeat (first | (with_reducible assumption) | (with_reducible exact Has.new _ _ _) | (with_reducible exact Has.new1 _ _ _ _) | (with_reducible exact Has.new2 _ _ _ _ _) | (with_reducible refine Has.newAt ?_; (simp; done)) | (with_reducible apply Has.set) | (with_reducible apply Has.far; (case hn => first | assumption | (simp; done) | (intro e_; simp at e_; omega))) | (with_reducible apply Has.alloc) | (with_reducible apply Has.drewN) | (with_reducible apply Has.drew) | (with_reducible refine Has.keeps ?_ (by with_reducible assumption)))))); (first | rfl | (simp; done)))
              have M := M1.upd hS (by simp; exact g3) (by simp; exact b2)
              have R := R2.upd hS (by simp; exact r1) (by simp; exact rb1)
              have K := K1.upd hS (by simp; exact H.h5)
              have HD := HD.upd hS (by simp; exact d5)
              clear hW
              have H2 : Play w W g b r rb la n (l.set j z2) (c + 1) ⟨2, j, q, z2, true⟩ := ⟨M, R, LA, bne, K, H.h1, H.h2, H.h3, H.h4, H.h5⟩
              have cc2 : c + 1 ≤ (k : Int) + 1 := by omega
              have hX : ∀ (u : After W), (u.world.cell? ⟨r, 0, none⟩ = some (.slice (some ⟨rb, 0, none⟩) n n) ∧ u.world.cell? ⟨r, 1, none⟩ = some (.int .i64 (c + 1))) ∧ u.world.cell? ⟨dd, 1, none⟩ = some (.int .i64 j) := fun u => ⟨⟨(H2.R.hg.keeps u.keeps).cell 0, (H2.R.hg.keeps u.keeps).cell 1⟩, (HD.keeps u.keeps).cell 1⟩
              have hY : ∀ (u : After W), u.world.cell? ⟨la, 0, none⟩ = some (.int .i64 ((⟨2, j, q, z2, true⟩ : Acc)).kind) ∧ u.world.cell? ⟨la, 1, none⟩ = some (.int .i64 ((⟨2, j, q, z2, true⟩ : Acc)).at_) ∧ u.world.cell? ⟨la, 2, none⟩ = some (.int .u64 ((⟨2, j, q, z2, true⟩ : Acc)).old) ∧ u.world.cell? ⟨la, 3, none⟩ = some (.int .u64 ((⟨2, j, q, z2, true⟩ : Acc)).new) ∧ u.world.cell? ⟨la, 4, none⟩ = some (.bool ((⟨2, j, q, z2, true⟩ : Acc)).ok) := fun u => ⟨(H2.LA.keeps u.keeps).cell 0, (H2.LA.keeps u.keeps).cell 1, (H2.LA.keeps u.keeps).cell 2, (H2.LA.keeps u.keeps).cell 3, (H2.LA.keeps u.keeps).cell 4⟩
              (try simp only [] at hY)
              have hZ : ∀ (u : After W), u.world.cell? ⟨rb, j, none⟩ = some (.int .u64 (z2)) := fun u => by rw [(H2.R.hb.keeps u.keeps).cell, u64s_at HN.out]
              (refine wp_region_after_lit (by kernel_rfl) (by kernel_rfl) ?_; (try simp only [List.append_eq, List.cons_append, List.nil_append]); (repeat (first | go_big_quiet_step ((first | (go_at_call 45; exact calls_after_same (mcount (H2.M.keeps (After.keeps _)))) | (go_at_call 33; exact calls_after (mlast (H2.M.keeps (After.keeps _)))) | (go_at_call 43; exact calls_after_same (mpeek_in (H2.M.keeps (After.keeps _)) j HN.out)))) | ((with_reducible refine wpQuiet_step (fun K hK => ?_)); go_simp; first | (refine hK _ ?_; clear hK K) | (apply Exists.intro; refine ⟨fun _ => ?_, hK _ ?_⟩; (first | (go_at_call 45; exact calls_after_same (mcount (H2.M.keeps (After.keeps _)))) | (go_at_call 33; exact calls_after (mlast (H2.M.keeps (After.keeps _)))) | (go_at_call 43; exact calls_after_same (mpeek_in (H2.M.keeps (After.keeps _)) j HN.out))); clear hK K) | (refine ⟨.bool false, fun _ => ?_, hK _ ?_⟩; (simp; done); clear hK K) | (refine ⟨.bool true, fun _ => ?_, hK _ ?_⟩; (simp; done); clear hK K)))); refine wpQuiet_nil ?_; intro _ hw'; obtain ⟨uq, hw''⟩ := hw'; subst hw'')
              go_wp2
              go_roundw
              case rel => exact ⟨k + 1, _, _, _, by omega, by go_num, H2.keeps uq.keeps, by omega⟩
              case measure => simp [intOf]; omega
          · by_cases hz : q = z2
            · subst hz
              as_aux_lemma =>
                go_upto_region 23 with fail
                refine wp_named (fun W1 hW1 => ?_)
                have KW : Keeps W0 W1 := by rw [hW1]; ((repeat' (first | (with_reducible exact Keeps.refl _) | (with_reducible assumption) | (with_reducible refine Keeps.drewN ?_ _) | (with_reducible refine Keeps.drew ?_) | (with_reducible refine Keeps.alloc ?_ _) | (with_reducible refine Keeps.setCell ?_ ?_ _) | (with_reducible refine Keeps.trans ?_ (After.keeps _)) | (with_reducible refine Keeps.trans ?_ (by with_reducible assumption)) | go_size)); (first | done | fail))
                have H := H.keeps KW
                have HD := HD.keeps KW
                clear hW1
                have F_ := (HD).facts; simp only [blockFacts, listFacts, cellsAt, Nat.reduceAdd, and_true, true_and, and_assoc] at F_
                have HN : Hid ((l.set j z3)[j]? = some (z3)) := Lib.hid (by rw [List.getElem?_set_self (get_lt HQ.out)])
                go_upto_region 47 with (first
                  | (go_at_call 15; refine (number_c _ _ _ (by omega) (by omega)).mono ?_; rintro e w' ⟨rfl, rfl⟩; rw [HK.out])
                  | (go_at_call 39; refine (mcas_eq H.M j _ HQ.out cc).mono ?_; rintro e w' ⟨rfl, hu, M1⟩; have hp := H.past1 hu M1; obtain ⟨M1, R1, LA1, K1⟩ := hp; have HD := HD.upd hu (by simp; exact ⟨d1, d2⟩); have F_ := (HD).facts; simp only [blockFacts, listFacts, cellsAt, Nat.reduceAdd, and_true, true_and, and_assoc] at F_)
                  | (go_at_call 40; refine (rmcas_eq R1 j _ HQ.out cc).mono ?_; rintro e w' ⟨rfl, hv, R2⟩; have M1 := M1.upd hv (by simp; exact ⟨g1, g2⟩) (by simp; exact ⟨b1, bne⟩); have LA1 := LA1.upd hv (by simp; exact ⟨r1.symm, rb1.symm⟩); have K1 := K1.upd2 hv H.h3 H.h4; have HD := HD.upd hv (by simp; exact ⟨d3, d4⟩); have F_ := (HD).facts; simp only [blockFacts, listFacts, cellsAt, Nat.reduceAdd, and_true, true_and, and_assoc] at F_; have FL := LA1.facts; simp only [blockFacts, listFacts, cellsAt, accOf, Nat.reduceAdd, and_true, true_and, and_assoc] at FL; have hR1 := R2.hg; have FR := hR1.facts; simp only [blockFacts, listFacts, cellsAt, Nat.reduceAdd, and_true, true_and, and_assoc] at FR))
                have hrc2 : w'.cell? ⟨rb, j, none⟩ = some (.int .u64 (z3)) := by rw [R2.hb.cell, u64s_at HN.out]
                have hRb := R2.hb
                go_region_held3 (fun y => (y.cell? ⟨dd, 1, none⟩ = some (.int .i64 j) ∧ y.cell? ⟨r, 0, none⟩ = some (.slice (some ⟨rb, 0, none⟩) n n)) ∧ y.cell? ⟨rb, j, none⟩ = some (.int .u64 (z3))) (refine ⟨⟨Has.cell (show Has _ dd #[.int .i64 z0, .int .i64 j, .int .u64 q, .int .u64 z3] 61 from by (apply Has.congr; (focus ((repeat (first | (with_reducible assumption) | (with_reducible exact Has.new _ _ _) | (with_reducible exact Has.new1 _ _ _ _) | (with_reducible exact Has.new2 _ _ _ _ _) | (with_reducible refine Has.newAt ?_; (simp; done)) | (with_reducible apply Has.set) | (with_reducible apply Has.far; (case hn => first | assumption | (simp; done) | (intro e_; simp at e_; omega))) | (with_reducible apply Has.alloc) | (with_reducible apply Has.drewN) | (with_reducible apply Has.drew) | (with_reducible refine Has.keeps ?_ (by with_reducible assumption)))))); (first | rfl | (simp; done)))) 1, Has.cell (show Has _ r #[.slice (some ⟨rb, 0, none⟩) n n, .int .i64 (c + 1)] 63 from by (apply Has.congr; (focus ((repeat (first | (with_reducible assumption) | (with_reducible exact Has.new _ _ _) | (with_reducible exact Has.new1 _ _ _ _) | (with_reducible exact Has.new2 _ _ _ _ _) | (with_reducible refine Has.newAt ?_; (simp; done)) | (with_reducible apply Has.set) | (with_reducible apply Has.far; (case hn => first | assumption | (simp; done) | (intro e_; simp at e_; omega))) | (with_reducible apply Has.alloc) | (with_reducible apply Has.drewN) | (with_reducible apply Has.drew) | (with_reducible refine Has.keeps ?_ (by with_reducible assumption)))))); (first | rfl | (simp; done)))) 0⟩, (Has.cell (show Has _ rb (u64s (l.set j z3)) 29 from by (apply Has.congr; (focus ((repeat (first | (with_reducible assumption) | (with_reducible exact Has.new _ _ _) | (with_reducible exact Has.new1 _ _ _ _) | (with_reducible exact Has.new2 _ _ _ _ _) | (with_reducible refine Has.newAt ?_; (simp; done)) | (with_reducible apply Has.set) | (with_reducible apply Has.far; (case hn => first | assumption | (simp; done) | (intro e_; simp at e_; omega))) | (with_reducible apply Has.alloc) | (with_reducible apply Has.drewN) | (with_reducible apply Has.drew) | (with_reducible refine Has.keeps ?_ (by with_reducible assumption)))))); (first | rfl | (simp; done)))) j).trans (u64s_at HN.out)⟩) (fail)
                go_upto_region 58 with fail
                refine wp_named (fun W hW => ?_)
                have hS : Upd [la] w' W := by rw [hW]; (repeat (first | (with_reducible exact Upd.refl _ _) | (with_reducible assumption) | (with_reducible refine Upd.setCell ?_ (by first | (left; simp; done) | (right; go_size)) _) | (with_reducible refine Upd.alloc ?_ _) | (with_reducible refine Upd.drewN ?_ _) | (with_reducible refine Upd.drew ?_)))
                have LA : Has W la (accOf ⟨3, j, q, z3, true⟩) 56 := by rw [hW]; (apply Has.congr; (focus ((repeat (first | (with_reducible assumption) | (with_reducible exact Has.new _ _ _) | (with_reducible exact Has.new1 _ _ _ _) | (with_reducible exact Has.new2 _ _ _ _ _) | (with_reducible refine Has.newAt ?_; (simp; done)) | (with_reducible apply Has.set) | (with_reducible apply Has.far; (case hn => first | assumption | (simp; done) | (intro e_; simp at e_; omega))) | (with_reducible apply Has.alloc) | (with_reducible apply Has.drewN) | (with_reducible apply Has.drew) | (with_reducible refine Has.keeps ?_ (by with_reducible assumption)))))); (first | rfl | (simp; done)))
                have M := M1.upd hS (by simp; exact g3) (by simp; exact b2)
                have R := R2.upd hS (by simp; exact r1) (by simp; exact rb1)
                have K := K1.upd hS (by simp; exact H.h5)
                have HD := HD.upd hS (by simp; exact d5)
                clear hW
                have H2 : Play w W g b r rb la n (l.set j z3) (c + 1) ⟨3, j, q, z3, true⟩ := ⟨M, R, LA, bne, K, H.h1, H.h2, H.h3, H.h4, H.h5⟩
                have cc2 : c + 1 ≤ (k : Int) + 1 := by omega
                have hX : ∀ (u : After W), (u.world.cell? ⟨r, 0, none⟩ = some (.slice (some ⟨rb, 0, none⟩) n n) ∧ u.world.cell? ⟨r, 1, none⟩ = some (.int .i64 (c + 1))) ∧ u.world.cell? ⟨dd, 1, none⟩ = some (.int .i64 j) := fun u => ⟨⟨(H2.R.hg.keeps u.keeps).cell 0, (H2.R.hg.keeps u.keeps).cell 1⟩, (HD.keeps u.keeps).cell 1⟩
                have hY : ∀ (u : After W), u.world.cell? ⟨la, 0, none⟩ = some (.int .i64 ((⟨3, j, q, z3, true⟩ : Acc)).kind) ∧ u.world.cell? ⟨la, 1, none⟩ = some (.int .i64 ((⟨3, j, q, z3, true⟩ : Acc)).at_) ∧ u.world.cell? ⟨la, 2, none⟩ = some (.int .u64 ((⟨3, j, q, z3, true⟩ : Acc)).old) ∧ u.world.cell? ⟨la, 3, none⟩ = some (.int .u64 ((⟨3, j, q, z3, true⟩ : Acc)).new) ∧ u.world.cell? ⟨la, 4, none⟩ = some (.bool ((⟨3, j, q, z3, true⟩ : Acc)).ok) := fun u => ⟨(H2.LA.keeps u.keeps).cell 0, (H2.LA.keeps u.keeps).cell 1, (H2.LA.keeps u.keeps).cell 2, (H2.LA.keeps u.keeps).cell 3, (H2.LA.keeps u.keeps).cell 4⟩
                (try simp only [] at hY)
                have hZ : ∀ (u : After W), u.world.cell? ⟨rb, j, none⟩ = some (.int .u64 (z3)) := fun u => by rw [(H2.R.hb.keeps u.keeps).cell, u64s_at HN.out]
                (refine wp_region_after_lit (by kernel_rfl) (by kernel_rfl) ?_; (try simp only [List.append_eq, List.cons_append, List.nil_append]); (repeat (first | go_big_quiet_step ((first | (go_at_call 45; exact calls_after_same (mcount (H2.M.keeps (After.keeps _)))) | (go_at_call 33; exact calls_after (mlast (H2.M.keeps (After.keeps _)))) | (go_at_call 43; exact calls_after_same (mpeek_in (H2.M.keeps (After.keeps _)) j HN.out)))) | ((with_reducible refine wpQuiet_step (fun K hK => ?_)); go_simp; first | (refine hK _ ?_; clear hK K) | (apply Exists.intro; refine ⟨fun _ => ?_, hK _ ?_⟩; (first | (go_at_call 45; exact calls_after_same (mcount (H2.M.keeps (After.keeps _)))) | (go_at_call 33; exact calls_after (mlast (H2.M.keeps (After.keeps _)))) | (go_at_call 43; exact calls_after_same (mpeek_in (H2.M.keeps (After.keeps _)) j HN.out))); clear hK K) | (refine ⟨.bool false, fun _ => ?_, hK _ ?_⟩; (simp; done); clear hK K) | (refine ⟨.bool true, fun _ => ?_, hK _ ?_⟩; (simp; done); clear hK K)))); refine wpQuiet_nil ?_; intro _ hw'; obtain ⟨uq, hw''⟩ := hw'; subst hw'')
                go_wp2
                go_roundw
                case rel => exact ⟨k + 1, _, _, _, by omega, by go_num, H2.keeps uq.keeps, by omega⟩
                case measure => simp [intOf]; omega
            · have HZN : Hid ((q != z2) = true) := Lib.hid (by simpa using hz)
              have hzf : (q == z2) = false := by simpa using hz
              as_aux_lemma =>
                go_upto_region 23 with fail
                refine wp_named (fun W1 hW1 => ?_)
                have KW : Keeps W0 W1 := by rw [hW1]; ((repeat' (first | (with_reducible exact Keeps.refl _) | (with_reducible assumption) | (with_reducible refine Keeps.drewN ?_ _) | (with_reducible refine Keeps.drew ?_) | (with_reducible refine Keeps.alloc ?_ _) | (with_reducible refine Keeps.setCell ?_ ?_ _) | (with_reducible refine Keeps.trans ?_ (After.keeps _)) | (with_reducible refine Keeps.trans ?_ (by with_reducible assumption)) | go_size)); (first | done | fail))
                have H := H.keeps KW
                have HD := HD.keeps KW
                clear hW1
                have F_ := (HD).facts; simp only [blockFacts, listFacts, cellsAt, Nat.reduceAdd, and_true, true_and, and_assoc] at F_
                have HN : Hid ((l)[j]? = some (q)) := Lib.hid (HQ.out)
                go_upto_region 47 with (first
                  | (go_at_call 15; refine (number_c _ _ _ (by omega) (by omega)).mono ?_; rintro e w' ⟨rfl, rfl⟩; rw [HK.out])
                  | (go_at_call 39; refine (mcas_ne H.M j _ _ HQ.out cc HZN.out).mono ?_; rintro e w' ⟨rfl, hu, M1⟩; have hp := H.past1 hu M1; obtain ⟨M1, R1, LA1, K1⟩ := hp; have HD := HD.upd hu (by simp; exact ⟨d1, d2⟩); have F_ := (HD).facts; simp only [blockFacts, listFacts, cellsAt, Nat.reduceAdd, and_true, true_and, and_assoc] at F_)
                  | (go_at_call 40; refine (rmcas_ne R1 j _ _ HQ.out cc HZN.out).mono ?_; rintro e w' ⟨rfl, hv, R2⟩; have M1 := M1.upd hv (by simp; exact ⟨g1, g2⟩) (by simp; exact ⟨b1, bne⟩); have LA1 := LA1.upd hv (by simp; exact ⟨r1.symm, rb1.symm⟩); have K1 := K1.upd2 hv H.h3 H.h4; have HD := HD.upd hv (by simp; exact ⟨d3, d4⟩); have F_ := (HD).facts; simp only [blockFacts, listFacts, cellsAt, Nat.reduceAdd, and_true, true_and, and_assoc] at F_; have FL := LA1.facts; simp only [blockFacts, listFacts, cellsAt, accOf, Nat.reduceAdd, and_true, true_and, and_assoc] at FL; have hR1 := R2.hg; have FR := hR1.facts; simp only [blockFacts, listFacts, cellsAt, Nat.reduceAdd, and_true, true_and, and_assoc] at FR))
                have hrc2 : w'.cell? ⟨rb, j, none⟩ = some (.int .u64 (q)) := by rw [R2.hb.cell, u64s_at HN.out]
                have hRb := R2.hb
                go_region_held3 (fun y => (y.cell? ⟨dd, 1, none⟩ = some (.int .i64 j) ∧ y.cell? ⟨r, 0, none⟩ = some (.slice (some ⟨rb, 0, none⟩) n n)) ∧ y.cell? ⟨rb, j, none⟩ = some (.int .u64 (q))) (refine ⟨⟨Has.cell (show Has _ dd #[.int .i64 z0, .int .i64 j, .int .u64 z2, .int .u64 z3] 61 from by (apply Has.congr; (focus ((repeat (first | (with_reducible assumption) | (with_reducible exact Has.new _ _ _) | (with_reducible exact Has.new1 _ _ _ _) | (with_reducible exact Has.new2 _ _ _ _ _) | (with_reducible refine Has.newAt ?_; (simp; done)) | (with_reducible apply Has.set) | (with_reducible apply Has.far; (case hn => first | assumption | (simp; done) | (intro e_; simp at e_; omega))) | (with_reducible apply Has.alloc) | (with_reducible apply Has.drewN) | (with_reducible apply Has.drew) | (with_reducible refine Has.keeps ?_ (by with_reducible assumption)))))); (first | rfl | (simp; done)))) 1, Has.cell (show Has _ r #[.slice (some ⟨rb, 0, none⟩) n n, .int .i64 (c + 1)] 63 from by (apply Has.congr; (focus ((repeat (first | (with_reducible assumption) | (with_reducible exact Has.new _ _ _) | (with_reducible exact Has.new1 _ _ _ _) | (with_reducible exact Has.new2 _ _ _ _ _) | (with_reducible refine Has.newAt ?_; (simp; done)) | (with_reducible apply Has.set) | (with_reducible apply Has.far; (case hn => first | assumption | (simp; done) | (intro e_; simp at e_; omega))) | (with_reducible apply Has.alloc) | (with_reducible apply Has.drewN) | (with_reducible apply Has.drew) | (with_reducible refine Has.keeps ?_ (by with_reducible assumption)))))); (first | rfl | (simp; done)))) 0⟩, (Has.cell (show Has _ rb (u64s (l)) 29 from by (apply Has.congr; (focus ((repeat (first | (with_reducible assumption) | (with_reducible exact Has.new _ _ _) | (with_reducible exact Has.new1 _ _ _ _) | (with_reducible exact Has.new2 _ _ _ _ _) | (with_reducible refine Has.newAt ?_; (simp; done)) | (with_reducible apply Has.set) | (with_reducible apply Has.far; (case hn => first | assumption | (simp; done) | (intro e_; simp at e_; omega))) | (with_reducible apply Has.alloc) | (with_reducible apply Has.drewN) | (with_reducible apply Has.drew) | (with_reducible refine Has.keeps ?_ (by with_reducible assumption)))))); (first | rfl | (simp; done)))) j).trans (u64s_at HN.out)⟩) (fail)
                go_upto_region 58 with fail
                refine wp_named (fun W hW => ?_)
                have hS : Upd [la] w' W := by rw [hW]; (repeat (first | (with_reducible exact Upd.refl _ _) | (with_reducible assumption) | (with_reducible refine Upd.setCell ?_ (by first | (left; simp; done) | (right; go_size)) _) | (with_reducible refine Upd.alloc ?_ _) | (with_reducible refine Upd.drewN ?_ _) | (with_reducible refine Upd.drew ?_)))
                have LA : Has W la (accOf ⟨3, j, q, q, false⟩) 56 := by rw [hW]; (apply Has.congr; (focus ((repeat (first | (with_reducible assumption) | (with_reducible exact Has.new _ _ _) | (with_reducible exact Has.new1 _ _ _ _) | (with_reducible exact Has.new2 _ _ _ _ _) | (with_reducible refine Has.newAt ?_; (simp; done)) | (with_reducible apply Has.set) | (with_reducible apply Has.far; (case hn => first | assumption | (simp; done) | (intro e_; simp at e_; omega))) | (with_reducible apply Has.alloc) | (with_reducible apply Has.drewN) | (with_reducible apply Has.drew) | (with_reducible refine Has.keeps ?_ (by with_reducible assumption)))))); (first | rfl | (simp; done)))
                have M := M1.upd hS (by simp; exact g3) (by simp; exact b2)
                have R := R2.upd hS (by simp; exact r1) (by simp; exact rb1)
                have K := K1.upd hS (by simp; exact H.h5)
                have HD := HD.upd hS (by simp; exact d5)
                clear hW
                have H2 : Play w W g b r rb la n (l) (c + 1) ⟨3, j, q, q, false⟩ := ⟨M, R, LA, bne, K, H.h1, H.h2, H.h3, H.h4, H.h5⟩
                have cc2 : c + 1 ≤ (k : Int) + 1 := by omega
                have hX : ∀ (u : After W), (u.world.cell? ⟨r, 0, none⟩ = some (.slice (some ⟨rb, 0, none⟩) n n) ∧ u.world.cell? ⟨r, 1, none⟩ = some (.int .i64 (c + 1))) ∧ u.world.cell? ⟨dd, 1, none⟩ = some (.int .i64 j) := fun u => ⟨⟨(H2.R.hg.keeps u.keeps).cell 0, (H2.R.hg.keeps u.keeps).cell 1⟩, (HD.keeps u.keeps).cell 1⟩
                have hY : ∀ (u : After W), u.world.cell? ⟨la, 0, none⟩ = some (.int .i64 ((⟨3, j, q, q, false⟩ : Acc)).kind) ∧ u.world.cell? ⟨la, 1, none⟩ = some (.int .i64 ((⟨3, j, q, q, false⟩ : Acc)).at_) ∧ u.world.cell? ⟨la, 2, none⟩ = some (.int .u64 ((⟨3, j, q, q, false⟩ : Acc)).old) ∧ u.world.cell? ⟨la, 3, none⟩ = some (.int .u64 ((⟨3, j, q, q, false⟩ : Acc)).new) ∧ u.world.cell? ⟨la, 4, none⟩ = some (.bool ((⟨3, j, q, q, false⟩ : Acc)).ok) := fun u => ⟨(H2.LA.keeps u.keeps).cell 0, (H2.LA.keeps u.keeps).cell 1, (H2.LA.keeps u.keeps).cell 2, (H2.LA.keeps u.keeps).cell 3, (H2.LA.keeps u.keeps).cell 4⟩
                (try simp only [] at hY)
                have hZ : ∀ (u : After W), u.world.cell? ⟨rb, j, none⟩ = some (.int .u64 (q)) := fun u => by rw [(H2.R.hb.keeps u.keeps).cell, u64s_at HN.out]
                (refine wp_region_after_lit (by kernel_rfl) (by kernel_rfl) ?_; (try simp only [List.append_eq, List.cons_append, List.nil_append]); (repeat (first | go_big_quiet_step ((first | (go_at_call 45; exact calls_after_same (mcount (H2.M.keeps (After.keeps _)))) | (go_at_call 33; exact calls_after (mlast (H2.M.keeps (After.keeps _)))) | (go_at_call 43; exact calls_after_same (mpeek_in (H2.M.keeps (After.keeps _)) j HN.out)))) | ((with_reducible refine wpQuiet_step (fun K hK => ?_)); go_simp; first | (refine hK _ ?_; clear hK K) | (apply Exists.intro; refine ⟨fun _ => ?_, hK _ ?_⟩; (first | (go_at_call 45; exact calls_after_same (mcount (H2.M.keeps (After.keeps _)))) | (go_at_call 33; exact calls_after (mlast (H2.M.keeps (After.keeps _)))) | (go_at_call 43; exact calls_after_same (mpeek_in (H2.M.keeps (After.keeps _)) j HN.out))); clear hK K) | (refine ⟨.bool false, fun _ => ?_, hK _ ?_⟩; (simp; done); clear hK K) | (refine ⟨.bool true, fun _ => ?_, hK _ ?_⟩; (simp; done); clear hK K)))); refine wpQuiet_nil ?_; intro _ hw'; obtain ⟨uq, hw''⟩ := hw'; subst hw'')
                go_wp2
                go_roundw
                case rel => exact ⟨k + 1, _, _, _, by omega, by go_num, H2.keeps uq.keeps, by omega⟩
                case measure => simp [intOf]; omega
          · as_aux_lemma =>
              go_upto_region 23 with fail
              refine wp_named (fun W1 hW1 => ?_)
              have KW : Keeps W0 W1 := by rw [hW1]; ((repeat' (first | (with_reducible exact Keeps.refl _) | (with_reducible assumption) | (with_reducible refine Keeps.drewN ?_ _) | (with_reducible refine Keeps.drew ?_) | (with_reducible refine Keeps.alloc ?_ _) | (with_reducible refine Keeps.setCell ?_ ?_ _) | (with_reducible refine Keeps.trans ?_ (After.keeps _)) | (with_reducible refine Keeps.trans ?_ (by with_reducible assumption)) | go_size)); (first | done | fail))
              have H := H.keeps KW
              have HD := HD.keeps KW
              clear hW1
              have F_ := (HD).facts; simp only [blockFacts, listFacts, cellsAt, Nat.reduceAdd, and_true, true_and, and_assoc] at F_
              have HN : Hid ((l.set j (IntKind.u64.wrap (q + z2)))[j]? = some (IntKind.u64.wrap (q + z2))) := Lib.hid (by rw [List.getElem?_set_self (get_lt HQ.out)])
              go_upto_region 58 with (first
                | (go_at_call 15; refine (number_c _ _ _ (by omega) (by omega)).mono ?_; rintro e w' ⟨rfl, rfl⟩; rw [HK.out])
                | (go_at_call 41; refine (madd_in H.M j _ HQ.out cc).mono ?_; rintro e w' ⟨rfl, hu, M1⟩; have hp := H.past1 hu M1; obtain ⟨M1, R1, LA1, K1⟩ := hp; have HD := HD.upd hu (by simp; exact ⟨d1, d2⟩); have F_ := (HD).facts; simp only [blockFacts, listFacts, cellsAt, Nat.reduceAdd, and_true, true_and, and_assoc] at F_)
                | (go_at_call 42; refine (rmadd R1 j _ HQ.out cc).mono ?_; rintro e w' ⟨rfl, hv, R2⟩; have M1 := M1.upd hv (by simp; exact ⟨g1, g2⟩) (by simp; exact ⟨b1, bne⟩); have LA1 := LA1.upd hv (by simp; exact ⟨r1.symm, rb1.symm⟩); have K1 := K1.upd2 hv H.h3 H.h4; have HD := HD.upd hv (by simp; exact ⟨d3, d4⟩); have F_ := (HD).facts; simp only [blockFacts, listFacts, cellsAt, Nat.reduceAdd, and_true, true_and, and_assoc] at F_; have FL := LA1.facts; simp only [blockFacts, listFacts, cellsAt, accOf, Nat.reduceAdd, and_true, true_and, and_assoc] at FL; have hR1 := R2.hg; have FR := hR1.facts; simp only [blockFacts, listFacts, cellsAt, Nat.reduceAdd, and_true, true_and, and_assoc] at FR))
              refine wp_named (fun W hW => ?_)
              have hS : Upd [la] w' W := by rw [hW]; (repeat (first | (with_reducible exact Upd.refl _ _) | (with_reducible assumption) | (with_reducible refine Upd.setCell ?_ (by first | (left; simp; done) | (right; go_size)) _) | (with_reducible refine Upd.alloc ?_ _) | (with_reducible refine Upd.drewN ?_ _) | (with_reducible refine Upd.drew ?_)))
              have LA : Has W la (accOf ⟨4, j, q, IntKind.u64.wrap (q + z2), true⟩) 56 := by rw [hW]; (apply Has.congr; (focus ((repeat (first | (with_reducible assumption) | (with_reducible exact Has.new _ _ _) | (with_reducible exact Has.new1 _ _ _ _) | (with_reducible exact Has.new2 _ _ _ _ _) | (with_reducible refine Has.newAt ?_; (simp; done)) | (with_reducible apply Has.set) | (with_reducible apply Has.far; (case hn => first | assumption | (simp; done) | (intro e_; simp at e_; omega))) | (with_reducible apply Has.alloc) | (with_reducible apply Has.drewN) | (with_reducible apply Has.drew) | (with_reducible refine Has.keeps ?_ (by with_reducible assumption)))))); (first | rfl | (simp; done)))
              have M := M1.upd hS (by simp; exact g3) (by simp; exact b2)
              have R := R2.upd hS (by simp; exact r1) (by simp; exact rb1)
              have K := K1.upd hS (by simp; exact H.h5)
              have HD := HD.upd hS (by simp; exact d5)
              clear hW
              have H2 : Play w W g b r rb la n (l.set j (IntKind.u64.wrap (q + z2))) (c + 1) ⟨4, j, q, IntKind.u64.wrap (q + z2), true⟩ := ⟨M, R, LA, bne, K, H.h1, H.h2, H.h3, H.h4, H.h5⟩
              have cc2 : c + 1 ≤ (k : Int) + 1 := by omega
              have hX : ∀ (u : After W), (u.world.cell? ⟨r, 0, none⟩ = some (.slice (some ⟨rb, 0, none⟩) n n) ∧ u.world.cell? ⟨r, 1, none⟩ = some (.int .i64 (c + 1))) ∧ u.world.cell? ⟨dd, 1, none⟩ = some (.int .i64 j) := fun u => ⟨⟨(H2.R.hg.keeps u.keeps).cell 0, (H2.R.hg.keeps u.keeps).cell 1⟩, (HD.keeps u.keeps).cell 1⟩
              have hY : ∀ (u : After W), u.world.cell? ⟨la, 0, none⟩ = some (.int .i64 ((⟨4, j, q, IntKind.u64.wrap (q + z2), true⟩ : Acc)).kind) ∧ u.world.cell? ⟨la, 1, none⟩ = some (.int .i64 ((⟨4, j, q, IntKind.u64.wrap (q + z2), true⟩ : Acc)).at_) ∧ u.world.cell? ⟨la, 2, none⟩ = some (.int .u64 ((⟨4, j, q, IntKind.u64.wrap (q + z2), true⟩ : Acc)).old) ∧ u.world.cell? ⟨la, 3, none⟩ = some (.int .u64 ((⟨4, j, q, IntKind.u64.wrap (q + z2), true⟩ : Acc)).new) ∧ u.world.cell? ⟨la, 4, none⟩ = some (.bool ((⟨4, j, q, IntKind.u64.wrap (q + z2), true⟩ : Acc)).ok) := fun u => ⟨(H2.LA.keeps u.keeps).cell 0, (H2.LA.keeps u.keeps).cell 1, (H2.LA.keeps u.keeps).cell 2, (H2.LA.keeps u.keeps).cell 3, (H2.LA.keeps u.keeps).cell 4⟩
              (try simp only [] at hY)
              have hZ : ∀ (u : After W), u.world.cell? ⟨rb, j, none⟩ = some (.int .u64 (IntKind.u64.wrap (q + z2))) := fun u => by rw [(H2.R.hb.keeps u.keeps).cell, u64s_at HN.out]
              (refine wp_region_after_lit (by kernel_rfl) (by kernel_rfl) ?_; (try simp only [List.append_eq, List.cons_append, List.nil_append]); (repeat (first | go_big_quiet_step ((first | (go_at_call 45; exact calls_after_same (mcount (H2.M.keeps (After.keeps _)))) | (go_at_call 33; exact calls_after (mlast (H2.M.keeps (After.keeps _)))) | (go_at_call 43; exact calls_after_same (mpeek_in (H2.M.keeps (After.keeps _)) j HN.out)))) | ((with_reducible refine wpQuiet_step (fun K hK => ?_)); go_simp; first | (refine hK _ ?_; clear hK K) | (apply Exists.intro; refine ⟨fun _ => ?_, hK _ ?_⟩; (first | (go_at_call 45; exact calls_after_same (mcount (H2.M.keeps (After.keeps _)))) | (go_at_call 33; exact calls_after (mlast (H2.M.keeps (After.keeps _)))) | (go_at_call 43; exact calls_after_same (mpeek_in (H2.M.keeps (After.keeps _)) j HN.out))); clear hK K) | (refine ⟨.bool false, fun _ => ?_, hK _ ?_⟩; (simp; done); clear hK K) | (refine ⟨.bool true, fun _ => ?_, hK _ ?_⟩; (simp; done); clear hK K)))); refine wpQuiet_nil ?_; intro _ hw'; obtain ⟨uq, hw''⟩ := hw'; subst hw'')
              go_wp2
              go_roundw
              case rel => exact ⟨k + 1, _, _, _, by omega, by go_num, H2.keeps uq.keeps, by omega⟩
              case measure => simp [intOf]; omega
          · as_aux_lemma =>
              go_upto_region 23 with fail
              refine wp_named (fun W1 hW1 => ?_)
              have KW : Keeps W0 W1 := by rw [hW1]; ((repeat' (first | (with_reducible exact Keeps.refl _) | (with_reducible assumption) | (with_reducible refine Keeps.drewN ?_ _) | (with_reducible refine Keeps.drew ?_) | (with_reducible refine Keeps.alloc ?_ _) | (with_reducible refine Keeps.setCell ?_ ?_ _) | (with_reducible refine Keeps.trans ?_ (After.keeps _)) | (with_reducible refine Keeps.trans ?_ (by with_reducible assumption)) | go_size)); (first | done | fail))
              have H := H.keeps KW
              have HD := HD.keeps KW
              clear hW1
              have F_ := (HD).facts; simp only [blockFacts, listFacts, cellsAt, Nat.reduceAdd, and_true, true_and, and_assoc] at F_
              have HN := HQ
              go_upto_region 58 with (first
                | (go_at_call 15; refine (number_c _ _ _ (by omega) (by omega)).mono ?_; rintro e w' ⟨rfl, rfl⟩; rw [HK.out])
                | (go_at_call 43; refine (mpeek_in H.M j HQ.out).mono ?_; rintro e w' ⟨rfl, rfl⟩))
              refine wp_named (fun W hW => ?_)
              have KW2 : Keeps W1 W := by rw [hW]; ((repeat' (first | (with_reducible exact Keeps.refl _) | (with_reducible assumption) | (with_reducible refine Keeps.drewN ?_ _) | (with_reducible refine Keeps.drew ?_) | (with_reducible refine Keeps.alloc ?_ _) | (with_reducible refine Keeps.setCell ?_ ?_ _) | (with_reducible refine Keeps.trans ?_ (After.keeps _)) | (with_reducible refine Keeps.trans ?_ (by with_reducible assumption)) | go_size)); (first | done | fail))
              have H2 := H.keeps KW2
              have HD := HD.keeps KW2
              clear hW
              have cc2 : c ≤ (k : Int) + 1 := by omega
              have hX : ∀ (u : After W), (u.world.cell? ⟨r, 0, none⟩ = some (.slice (some ⟨rb, 0, none⟩) n n) ∧ u.world.cell? ⟨r, 1, none⟩ = some (.int .i64 (c))) ∧ u.world.cell? ⟨dd, 1, none⟩ = some (.int .i64 j) := fun u => ⟨⟨(H2.R.hg.keeps u.keeps).cell 0, (H2.R.hg.keeps u.keeps).cell 1⟩, (HD.keeps u.keeps).cell 1⟩
              have hY : ∀ (u : After W), u.world.cell? ⟨la, 0, none⟩ = some (.int .i64 (x).kind) ∧ u.world.cell? ⟨la, 1, none⟩ = some (.int .i64 (x).at_) ∧ u.world.cell? ⟨la, 2, none⟩ = some (.int .u64 (x).old) ∧ u.world.cell? ⟨la, 3, none⟩ = some (.int .u64 (x).new) ∧ u.world.cell? ⟨la, 4, none⟩ = some (.bool (x).ok) := fun u => ⟨(H2.LA.keeps u.keeps).cell 0, (H2.LA.keeps u.keeps).cell 1, (H2.LA.keeps u.keeps).cell 2, (H2.LA.keeps u.keeps).cell 3, (H2.LA.keeps u.keeps).cell 4⟩
              (try simp only [] at hY)
              have hZ : ∀ (u : After W), u.world.cell? ⟨rb, j, none⟩ = some (.int .u64 (q)) := fun u => by rw [(H2.R.hb.keeps u.keeps).cell, u64s_at HN.out]
              (refine wp_region_after_lit (by kernel_rfl) (by kernel_rfl) ?_; (try simp only [List.append_eq, List.cons_append, List.nil_append]); (repeat (first | go_big_quiet_step ((first | (go_at_call 45; exact calls_after_same (mcount (H2.M.keeps (After.keeps _)))) | (go_at_call 33; exact calls_after (mlast (H2.M.keeps (After.keeps _)))) | (go_at_call 43; exact calls_after_same (mpeek_in (H2.M.keeps (After.keeps _)) j HN.out)))) | ((with_reducible refine wpQuiet_step (fun K hK => ?_)); go_simp; first | (refine hK _ ?_; clear hK K) | (apply Exists.intro; refine ⟨fun _ => ?_, hK _ ?_⟩; (first | (go_at_call 45; exact calls_after_same (mcount (H2.M.keeps (After.keeps _)))) | (go_at_call 33; exact calls_after (mlast (H2.M.keeps (After.keeps _)))) | (go_at_call 43; exact calls_after_same (mpeek_in (H2.M.keeps (After.keeps _)) j HN.out))); clear hK K) | (refine ⟨.bool false, fun _ => ?_, hK _ ?_⟩; (simp; done); clear hK K) | (refine ⟨.bool true, fun _ => ?_, hK _ ?_⟩; (simp; done); clear hK K)))); refine wpQuiet_nil ?_; intro _ hw'; obtain ⟨uq, hw''⟩ := hw'; subst hw'')
              go_wp2
              go_roundw
              case rel => exact ⟨k + 1, _, _, _, by omega, by go_num, H2.keeps uq.keeps, by omega⟩
              case measure => simp [intOf]; omega
          · as_aux_lemma =>
              go_upto_region 23 with fail
              refine wp_named (fun W1 hW1 => ?_)
              have KW : Keeps W0 W1 := by rw [hW1]; ((repeat' (first | (with_reducible exact Keeps.refl _) | (with_reducible assumption) | (with_reducible refine Keeps.drewN ?_ _) | (with_reducible refine Keeps.drew ?_) | (with_reducible refine Keeps.alloc ?_ _) | (with_reducible refine Keeps.setCell ?_ ?_ _) | (with_reducible refine Keeps.trans ?_ (After.keeps _)) | (with_reducible refine Keeps.trans ?_ (by with_reducible assumption)) | go_size)); (first | done | fail))
              have H := H.keeps KW
              have HD := HD.keeps KW
              clear hW1
              have F_ := (HD).facts; simp only [blockFacts, listFacts, cellsAt, Nat.reduceAdd, and_true, true_and, and_assoc] at F_
              have HN : Hid ((l.set j z2)[j]? = some z2) := Lib.hid (by rw [List.getElem?_set_self (get_lt HQ.out)])
              go_upto_region 27 with (first
                | (go_at_call 15; refine (number_c _ _ _ (by omega) (by omega)).mono ?_; rintro e w' ⟨rfl, rfl⟩; rw [HK.out])
                | (go_at_call 44; refine (mlay_in H.M j _ HQ.out).mono ?_; rintro e w' ⟨rfl, hu, M1⟩; have hp := H.past1 hu M1; obtain ⟨M1, R1, LA1, K1⟩ := hp; have HD := HD.upd hu (by simp; exact ⟨d1, d2⟩); have F_ := (HD).facts; simp only [blockFacts, listFacts, cellsAt, Nat.reduceAdd, and_true, true_and, and_assoc] at F_; have R2 := R1; have hR1 := R2.hg; have FR := hR1.facts; simp only [blockFacts, listFacts, cellsAt, Nat.reduceAdd, and_true, true_and, and_assoc] at FR))
              have hrc2 : w'.cell? ⟨rb, j, none⟩ = some (.int .u64 q) := by rw [R2.hb.cell, u64s_at HQ.out]
              have hrf2 := R2.hb.frozen
              have hRb := R2.hb
              have hRl := R2.hb.lt
              have hRn := R2.ne
              go_region_held3 (fun y => (y.cell? ⟨dd, 1, none⟩ = some (.int .i64 j) ∧ y.cell? ⟨dd, 2, none⟩ = some (.int .u64 z2)) ∧ y.cell? ⟨r, 0, none⟩ = some (.slice (some ⟨rb, 0, none⟩) n n)) (refine ⟨⟨Has.cell (show Has _ dd #[.int .i64 z0, .int .i64 j, .int .u64 z2, .int .u64 z3] 61 from by (apply Has.congr; (focus ((repeat (first | (with_reducible assumption) | (with_reducible exact Has.new _ _ _) | (with_reducible exact Has.new1 _ _ _ _) | (with_reducible exact Has.new2 _ _ _ _ _) | (with_reducible refine Has.newAt ?_; (simp; done)) | (with_reducible apply Has.set) | (with_reducible apply Has.far; (case hn => first | assumption | (simp; done) | (intro e_; simp at e_; omega))) | (with_reducible apply Has.alloc) | (with_reducible apply Has.drewN) | (with_reducible apply Has.drew) | (with_reducible refine Has.keeps ?_ (by with_reducible assumption)))))); (first | rfl | (simp; done)))) 1, Has.cell (show Has _ dd #[.int .i64 z0, .int .i64 j, .int .u64 z2, .int .u64 z3] 61 from by (apply Has.congr; (focus ((repeat (first | (with_reducible assumption) | (with_reducible exact Has.new _ _ _) | (with_reducible exact Has.new1 _ _ _ _) | (with_reducible exact Has.new2 _ _ _ _ _) | (with_reducible refine Has.newAt ?_; (simp; done)) | (with_reducible apply Has.set) | (with_reducible apply Has.far; (case hn => first | assumption | (simp; done) | (intro e_; simp at e_; omega))) | (with_reducible apply Has.alloc) | (with_reducible apply Has.drewN) | (with_reducible apply Has.drew) | (with_reducible refine Has.keeps ?_ (by with_reducible assumption)))))); (first | rfl | (simp; done)))) 2⟩, Has.cell (show Has _ r #[.slice (some ⟨rb, 0, none⟩) n n, .int .i64 c] 63 from by (apply Has.congr; (focus ((repeat (first | (with_reducible assumption) | (with_reducible exact Has.new _ _ _) | (with_reducible exact Has.new1 _ _ _ _) | (with_reducible exact Has.new2 _ _ _ _ _) | (with_reducible refine Has.newAt ?_; (simp; done)) | (with_reducible apply Has.set) | (with_reducible apply Has.far; (case hn => first | assumption | (simp; done) | (intro e_; simp at e_; omega))) | (with_reducible apply Has.alloc) | (with_reducible apply Has.drewN) | (with_reducible apply Has.drew) | (with_reducible refine Has.keeps ?_ (by with_reducible assumption)))))); (first | rfl | (simp; done)))) 0⟩) (fail)
              go_upto_region 58 with fail
              refine wp_named (fun W hW => ?_)
              have hS : Upd [rb] w' W := by rw [hW]; (repeat (first | (with_reducible exact Upd.refl _ _) | (with_reducible assumption) | (with_reducible refine Upd.setCell ?_ (by first | (left; simp; done) | (right; go_size)) _) | (with_reducible refine Upd.alloc ?_ _) | (with_reducible refine Upd.drewN ?_ _) | (with_reducible refine Upd.drew ?_)))
              have RB : Has W rb (u64s (l.set j z2)) 29 := by rw [hW, ← u64s_set]; (apply Has.congr; (focus ((repeat (first | (with_reducible assumption) | (with_reducible exact Has.new _ _ _) | (with_reducible exact Has.new1 _ _ _ _) | (with_reducible exact Has.new2 _ _ _ _ _) | (with_reducible refine Has.newAt ?_; (simp; done)) | (with_reducible apply Has.set) | (with_reducible apply Has.far; (case hn => first | assumption | (simp; done) | (intro e_; simp at e_; omega))) | (with_reducible apply Has.alloc) | (with_reducible apply Has.drewN) | (with_reducible apply Has.drew) | (with_reducible refine Has.keeps ?_ (by with_reducible assumption)))))); (first | rfl | (simp; done)))
              have LA := LA1.upd hS (by simp; exact rb1.symm)
              have M := M1.upd hS (by simp; exact g2) (by simp; exact bne)
              have RG := hR1.upd hS (by simp; exact R2.ne)
              have K := K1.upd hS (by simp; exact H.h4)
              have HD := HD.upd hS (by simp; exact d4)
              clear hW
              have H2 : Play w W g b r rb la n (l.set j z2) c x := ⟨M, ⟨RG, RB, by simp; exact R2.len, R2.small, R2.c0, R2.c1⟩, LA, bne, K, H.h1, H.h2, H.h3, H.h4, H.h5⟩
              have cc2 : c ≤ (k : Int) + 1 := by omega
              have hX : ∀ (u : After W), (u.world.cell? ⟨r, 0, none⟩ = some (.slice (some ⟨rb, 0, none⟩) n n) ∧ u.world.cell? ⟨r, 1, none⟩ = some (.int .i64 (c))) ∧ u.world.cell? ⟨dd, 1, none⟩ = some (.int .i64 j) := fun u => ⟨⟨(H2.R.hg.keeps u.keeps).cell 0, (H2.R.hg.keeps u.keeps).cell 1⟩, (HD.keeps u.keeps).cell 1⟩
              have hY : ∀ (u : After W), u.world.cell? ⟨la, 0, none⟩ = some (.int .i64 (x).kind) ∧ u.world.cell? ⟨la, 1, none⟩ = some (.int .i64 (x).at_) ∧ u.world.cell? ⟨la, 2, none⟩ = some (.int .u64 (x).old) ∧ u.world.cell? ⟨la, 3, none⟩ = some (.int .u64 (x).new) ∧ u.world.cell? ⟨la, 4, none⟩ = some (.bool (x).ok) := fun u => ⟨(H2.LA.keeps u.keeps).cell 0, (H2.LA.keeps u.keeps).cell 1, (H2.LA.keeps u.keeps).cell 2, (H2.LA.keeps u.keeps).cell 3, (H2.LA.keeps u.keeps).cell 4⟩
              (try simp only [] at hY)
              have hZ : ∀ (u : After W), u.world.cell? ⟨rb, j, none⟩ = some (.int .u64 (z2)) := fun u => by rw [(H2.R.hb.keeps u.keeps).cell, u64s_at HN.out]
              (refine wp_region_after_lit (by kernel_rfl) (by kernel_rfl) ?_; (try simp only [List.append_eq, List.cons_append, List.nil_append]); (repeat (first | go_big_quiet_step ((first | (go_at_call 45; exact calls_after_same (mcount (H2.M.keeps (After.keeps _)))) | (go_at_call 33; exact calls_after (mlast (H2.M.keeps (After.keeps _)))) | (go_at_call 43; exact calls_after_same (mpeek_in (H2.M.keeps (After.keeps _)) j HN.out)))) | ((with_reducible refine wpQuiet_step (fun K hK => ?_)); go_simp; first | (refine hK _ ?_; clear hK K) | (apply Exists.intro; refine ⟨fun _ => ?_, hK _ ?_⟩; (first | (go_at_call 45; exact calls_after_same (mcount (H2.M.keeps (After.keeps _)))) | (go_at_call 33; exact calls_after (mlast (H2.M.keeps (After.keeps _)))) | (go_at_call 43; exact calls_after_same (mpeek_in (H2.M.keeps (After.keeps _)) j HN.out))); clear hK K) | (refine ⟨.bool false, fun _ => ?_, hK _ ?_⟩; (simp; done); clear hK K) | (refine ⟨.bool true, fun _ => ?_, hK _ ?_⟩; (simp; done); clear hK K)))); refine wpQuiet_nil ?_; intro _ hw'; obtain ⟨uq, hw''⟩ := hw'; subst hw'')
              go_wp2
              go_roundw
              case rel => exact ⟨k + 1, _, _, _, by omega, by go_num, H2.keeps uq.keeps, by omega⟩
              case measure => simp [intOf]; omega
        · by_cases hneg : z1 < 0
          · have ho : z1 < 0 ∨ (n : Int) ≤ z1 := .inl hneg
            clear hin
            have HO := Lib.hid ho
            clear ho
            rcases hq with hq | hq | hq | hq | hq | hq
            all_goals have HK := Lib.hid hq
            all_goals clear hq
            · as_aux_lemma =>
                go_upto_region 23 with fail
                refine wp_named (fun W1 hW1 => ?_)
                have KW : Keeps W0 W1 := by rw [hW1]; ((repeat' (first | (with_reducible exact Keeps.refl _) | (with_reducible assumption) | (with_reducible refine Keeps.drewN ?_ _) | (with_reducible refine Keeps.drew ?_) | (with_reducible refine Keeps.alloc ?_ _) | (with_reducible refine Keeps.setCell ?_ ?_ _) | (with_reducible refine Keeps.trans ?_ (After.keeps _)) | (with_reducible refine Keeps.trans ?_ (by with_reducible assumption)) | go_size)); (first | done | fail))
                have H := H.keeps KW
                have HD := HD.keeps KW
                clear hW1
                have F_ := (HD).facts; simp only [blockFacts, listFacts, cellsAt, Nat.reduceAdd, and_true, true_and, and_assoc] at F_
                go_upto_region 58 with (first
                  | (go_at_call 15; refine (number_c _ _ _ (by omega) (by omega)).mono ?_; rintro e w' ⟨rfl, rfl⟩; rw [HK.out])
                  | (go_at_call 35; refine (mload_out H.M z1 HO.out).mono ?_; rintro e w' ⟨rfl, rfl⟩))
                refine wp_named (fun W hW => ?_)
                have KW2 : Keeps W1 W := by rw [hW]; ((repeat' (first | (with_reducible exact Keeps.refl _) | (with_reducible assumption) | (with_reducible refine Keeps.drewN ?_ _) | (with_reducible refine Keeps.drew ?_) | (with_reducible refine Keeps.alloc ?_ _) | (with_reducible refine Keeps.setCell ?_ ?_ _) | (with_reducible refine Keeps.trans ?_ (After.keeps _)) | (with_reducible refine Keeps.trans ?_ (by with_reducible assumption)) | go_size)); (first | done | fail))
                have H2 := H.keeps KW2
                have HD := HD.keeps KW2
                clear hW
                have cc2 : c ≤ (k : Int) + 1 := by omega
                have hX : ∀ (u : After W), (u.world.cell? ⟨r, 0, none⟩ = some (.slice (some ⟨rb, 0, none⟩) n n) ∧ u.world.cell? ⟨r, 1, none⟩ = some (.int .i64 (c))) ∧ u.world.cell? ⟨dd, 1, none⟩ = some (.int .i64 z1) := fun u => ⟨⟨(H2.R.hg.keeps u.keeps).cell 0, (H2.R.hg.keeps u.keeps).cell 1⟩, (HD.keeps u.keeps).cell 1⟩
                have hY : ∀ (u : After W), u.world.cell? ⟨la, 0, none⟩ = some (.int .i64 (x).kind) ∧ u.world.cell? ⟨la, 1, none⟩ = some (.int .i64 (x).at_) ∧ u.world.cell? ⟨la, 2, none⟩ = some (.int .u64 (x).old) ∧ u.world.cell? ⟨la, 3, none⟩ = some (.int .u64 (x).new) ∧ u.world.cell? ⟨la, 4, none⟩ = some (.bool (x).ok) := fun u => ⟨(H2.LA.keeps u.keeps).cell 0, (H2.LA.keeps u.keeps).cell 1, (H2.LA.keeps u.keeps).cell 2, (H2.LA.keeps u.keeps).cell 3, (H2.LA.keeps u.keeps).cell 4⟩
                (try simp only [] at hY)
                (refine wp_region_after_lit (by kernel_rfl) (by kernel_rfl) ?_; (try simp only [List.append_eq, List.cons_append, List.nil_append]); (repeat (first | go_big_quiet_step ((first | (go_at_call 45; exact calls_after_same (mcount (H2.M.keeps (After.keeps _)))) | (go_at_call 33; exact calls_after (mlast (H2.M.keeps (After.keeps _)))))) | ((with_reducible refine wpQuiet_step (fun K hK => ?_)); go_simp; first | (refine hK _ ?_; clear hK K) | (apply Exists.intro; refine ⟨fun _ => ?_, hK _ ?_⟩; (first | (go_at_call 45; exact calls_after_same (mcount (H2.M.keeps (After.keeps _)))) | (go_at_call 33; exact calls_after (mlast (H2.M.keeps (After.keeps _))))); clear hK K) | (refine ⟨.bool false, fun _ => ?_, hK _ ?_⟩; (simp; done); clear hK K) | (refine ⟨.bool true, fun _ => ?_, hK _ ?_⟩; (simp; done); clear hK K)))); refine wpQuiet_nil ?_; intro _ hw'; obtain ⟨uq, hw''⟩ := hw'; subst hw'')
                go_wp2
                go_roundw
                case rel => exact ⟨k + 1, _, _, _, by omega, by go_num, H2.keeps uq.keeps, by omega⟩
                case measure => simp [intOf]; omega
            · as_aux_lemma =>
                go_upto_region 23 with fail
                refine wp_named (fun W1 hW1 => ?_)
                have KW : Keeps W0 W1 := by rw [hW1]; ((repeat' (first | (with_reducible exact Keeps.refl _) | (with_reducible assumption) | (with_reducible refine Keeps.drewN ?_ _) | (with_reducible refine Keeps.drew ?_) | (with_reducible refine Keeps.alloc ?_ _) | (with_reducible refine Keeps.setCell ?_ ?_ _) | (with_reducible refine Keeps.trans ?_ (After.keeps _)) | (with_reducible refine Keeps.trans ?_ (by with_reducible assumption)) | go_size)); (first | done | fail))
                have H := H.keeps KW
                have HD := HD.keeps KW
                clear hW1
                have F_ := (HD).facts; simp only [blockFacts, listFacts, cellsAt, Nat.reduceAdd, and_true, true_and, and_assoc] at F_
                go_upto_region 58 with (first
                  | (go_at_call 15; refine (number_c _ _ _ (by omega) (by omega)).mono ?_; rintro e w' ⟨rfl, rfl⟩; rw [HK.out])
                  | (go_at_call 37; refine (mstore_out H.M z1 _ HO.out).mono ?_; rintro e w' ⟨rfl, rfl⟩))
                refine wp_named (fun W hW => ?_)
                have KW2 : Keeps W1 W := by rw [hW]; ((repeat' (first | (with_reducible exact Keeps.refl _) | (with_reducible assumption) | (with_reducible refine Keeps.drewN ?_ _) | (with_reducible refine Keeps.drew ?_) | (with_reducible refine Keeps.alloc ?_ _) | (with_reducible refine Keeps.setCell ?_ ?_ _) | (with_reducible refine Keeps.trans ?_ (After.keeps _)) | (with_reducible refine Keeps.trans ?_ (by with_reducible assumption)) | go_size)); (first | done | fail))
                have H2 := H.keeps KW2
                have HD := HD.keeps KW2
                clear hW
                have cc2 : c ≤ (k : Int) + 1 := by omega
                have hX : ∀ (u : After W), (u.world.cell? ⟨r, 0, none⟩ = some (.slice (some ⟨rb, 0, none⟩) n n) ∧ u.world.cell? ⟨r, 1, none⟩ = some (.int .i64 (c))) ∧ u.world.cell? ⟨dd, 1, none⟩ = some (.int .i64 z1) := fun u => ⟨⟨(H2.R.hg.keeps u.keeps).cell 0, (H2.R.hg.keeps u.keeps).cell 1⟩, (HD.keeps u.keeps).cell 1⟩
                have hY : ∀ (u : After W), u.world.cell? ⟨la, 0, none⟩ = some (.int .i64 (x).kind) ∧ u.world.cell? ⟨la, 1, none⟩ = some (.int .i64 (x).at_) ∧ u.world.cell? ⟨la, 2, none⟩ = some (.int .u64 (x).old) ∧ u.world.cell? ⟨la, 3, none⟩ = some (.int .u64 (x).new) ∧ u.world.cell? ⟨la, 4, none⟩ = some (.bool (x).ok) := fun u => ⟨(H2.LA.keeps u.keeps).cell 0, (H2.LA.keeps u.keeps).cell 1, (H2.LA.keeps u.keeps).cell 2, (H2.LA.keeps u.keeps).cell 3, (H2.LA.keeps u.keeps).cell 4⟩
                (try simp only [] at hY)
                (refine wp_region_after_lit (by kernel_rfl) (by kernel_rfl) ?_; (try simp only [List.append_eq, List.cons_append, List.nil_append]); (repeat (first | go_big_quiet_step ((first | (go_at_call 45; exact calls_after_same (mcount (H2.M.keeps (After.keeps _)))) | (go_at_call 33; exact calls_after (mlast (H2.M.keeps (After.keeps _)))))) | ((with_reducible refine wpQuiet_step (fun K hK => ?_)); go_simp; first | (refine hK _ ?_; clear hK K) | (apply Exists.intro; refine ⟨fun _ => ?_, hK _ ?_⟩; (first | (go_at_call 45; exact calls_after_same (mcount (H2.M.keeps (After.keeps _)))) | (go_at_call 33; exact calls_after (mlast (H2.M.keeps (After.keeps _))))); clear hK K) | (refine ⟨.bool false, fun _ => ?_, hK _ ?_⟩; (simp; done); clear hK K) | (refine ⟨.bool true, fun _ => ?_, hK _ ?_⟩; (simp; done); clear hK K)))); refine wpQuiet_nil ?_; intro _ hw'; obtain ⟨uq, hw''⟩ := hw'; subst hw'')
                go_wp2
                go_roundw
                case rel => exact ⟨k + 1, _, _, _, by omega, by go_num, H2.keeps uq.keeps, by omega⟩
                case measure => simp [intOf]; omega
            · as_aux_lemma =>
                go_upto_region 23 with fail
                refine wp_named (fun W1 hW1 => ?_)
                have KW : Keeps W0 W1 := by rw [hW1]; ((repeat' (first | (with_reducible exact Keeps.refl _) | (with_reducible assumption) | (with_reducible refine Keeps.drewN ?_ _) | (with_reducible refine Keeps.drew ?_) | (with_reducible refine Keeps.alloc ?_ _) | (with_reducible refine Keeps.setCell ?_ ?_ _) | (with_reducible refine Keeps.trans ?_ (After.keeps _)) | (with_reducible refine Keeps.trans ?_ (by with_reducible assumption)) | go_size)); (first | done | fail))
                have H := H.keeps KW
                have HD := HD.keeps KW
                clear hW1
                have F_ := (HD).facts; simp only [blockFacts, listFacts, cellsAt, Nat.reduceAdd, and_true, true_and, and_assoc] at F_
                go_upto_region 58 with (first
                  | (go_at_call 15; refine (number_c _ _ _ (by omega) (by omega)).mono ?_; rintro e w' ⟨rfl, rfl⟩; rw [HK.out])
                  | (go_at_call 39; refine (mcas_out H.M z1 _ _ HO.out).mono ?_; rintro e w' ⟨rfl, rfl⟩))
                refine wp_named (fun W hW => ?_)
                have KW2 : Keeps W1 W := by rw [hW]; ((repeat' (first | (with_reducible exact Keeps.refl _) | (with_reducible assumption) | (with_reducible refine Keeps.drewN ?_ _) | (with_reducible refine Keeps.drew ?_) | (with_reducible refine Keeps.alloc ?_ _) | (with_reducible refine Keeps.setCell ?_ ?_ _) | (with_reducible refine Keeps.trans ?_ (After.keeps _)) | (with_reducible refine Keeps.trans ?_ (by with_reducible assumption)) | go_size)); (first | done | fail))
                have H2 := H.keeps KW2
                have HD := HD.keeps KW2
                clear hW
                have cc2 : c ≤ (k : Int) + 1 := by omega
                have hX : ∀ (u : After W), (u.world.cell? ⟨r, 0, none⟩ = some (.slice (some ⟨rb, 0, none⟩) n n) ∧ u.world.cell? ⟨r, 1, none⟩ = some (.int .i64 (c))) ∧ u.world.cell? ⟨dd, 1, none⟩ = some (.int .i64 z1) := fun u => ⟨⟨(H2.R.hg.keeps u.keeps).cell 0, (H2.R.hg.keeps u.keeps).cell 1⟩, (HD.keeps u.keeps).cell 1⟩
                have hY : ∀ (u : After W), u.world.cell? ⟨la, 0, none⟩ = some (.int .i64 (x).kind) ∧ u.world.cell? ⟨la, 1, none⟩ = some (.int .i64 (x).at_) ∧ u.world.cell? ⟨la, 2, none⟩ = some (.int .u64 (x).old) ∧ u.world.cell? ⟨la, 3, none⟩ = some (.int .u64 (x).new) ∧ u.world.cell? ⟨la, 4, none⟩ = some (.bool (x).ok) := fun u => ⟨(H2.LA.keeps u.keeps).cell 0, (H2.LA.keeps u.keeps).cell 1, (H2.LA.keeps u.keeps).cell 2, (H2.LA.keeps u.keeps).cell 3, (H2.LA.keeps u.keeps).cell 4⟩
                (try simp only [] at hY)
                (refine wp_region_after_lit (by kernel_rfl) (by kernel_rfl) ?_; (try simp only [List.append_eq, List.cons_append, List.nil_append]); (repeat (first | go_big_quiet_step ((first | (go_at_call 45; exact calls_after_same (mcount (H2.M.keeps (After.keeps _)))) | (go_at_call 33; exact calls_after (mlast (H2.M.keeps (After.keeps _)))))) | ((with_reducible refine wpQuiet_step (fun K hK => ?_)); go_simp; first | (refine hK _ ?_; clear hK K) | (apply Exists.intro; refine ⟨fun _ => ?_, hK _ ?_⟩; (first | (go_at_call 45; exact calls_after_same (mcount (H2.M.keeps (After.keeps _)))) | (go_at_call 33; exact calls_after (mlast (H2.M.keeps (After.keeps _))))); clear hK K) | (refine ⟨.bool false, fun _ => ?_, hK _ ?_⟩; (simp; done); clear hK K) | (refine ⟨.bool true, fun _ => ?_, hK _ ?_⟩; (simp; done); clear hK K)))); refine wpQuiet_nil ?_; intro _ hw'; obtain ⟨uq, hw''⟩ := hw'; subst hw'')
                go_wp2
                go_roundw
                case rel => exact ⟨k + 1, _, _, _, by omega, by go_num, H2.keeps uq.keeps, by omega⟩
                case measure => simp [intOf]; omega
            · as_aux_lemma =>
                go_upto_region 23 with fail
                refine wp_named (fun W1 hW1 => ?_)
                have KW : Keeps W0 W1 := by rw [hW1]; ((repeat' (first | (with_reducible exact Keeps.refl _) | (with_reducible assumption) | (with_reducible refine Keeps.drewN ?_ _) | (with_reducible refine Keeps.drew ?_) | (with_reducible refine Keeps.alloc ?_ _) | (with_reducible refine Keeps.setCell ?_ ?_ _) | (with_reducible refine Keeps.trans ?_ (After.keeps _)) | (with_reducible refine Keeps.trans ?_ (by with_reducible assumption)) | go_size)); (first | done | fail))
                have H := H.keeps KW
                have HD := HD.keeps KW
                clear hW1
                have F_ := (HD).facts; simp only [blockFacts, listFacts, cellsAt, Nat.reduceAdd, and_true, true_and, and_assoc] at F_
                go_upto_region 58 with (first
                  | (go_at_call 15; refine (number_c _ _ _ (by omega) (by omega)).mono ?_; rintro e w' ⟨rfl, rfl⟩; rw [HK.out])
                  | (go_at_call 41; refine (madd_out H.M z1 _ HO.out).mono ?_; rintro e w' ⟨rfl, rfl⟩))
                refine wp_named (fun W hW => ?_)
                have KW2 : Keeps W1 W := by rw [hW]; ((repeat' (first | (with_reducible exact Keeps.refl _) | (with_reducible assumption) | (with_reducible refine Keeps.drewN ?_ _) | (with_reducible refine Keeps.drew ?_) | (with_reducible refine Keeps.alloc ?_ _) | (with_reducible refine Keeps.setCell ?_ ?_ _) | (with_reducible refine Keeps.trans ?_ (After.keeps _)) | (with_reducible refine Keeps.trans ?_ (by with_reducible assumption)) | go_size)); (first | done | fail))
                have H2 := H.keeps KW2
                have HD := HD.keeps KW2
                clear hW
                have cc2 : c ≤ (k : Int) + 1 := by omega
                have hX : ∀ (u : After W), (u.world.cell? ⟨r, 0, none⟩ = some (.slice (some ⟨rb, 0, none⟩) n n) ∧ u.world.cell? ⟨r, 1, none⟩ = some (.int .i64 (c))) ∧ u.world.cell? ⟨dd, 1, none⟩ = some (.int .i64 z1) := fun u => ⟨⟨(H2.R.hg.keeps u.keeps).cell 0, (H2.R.hg.keeps u.keeps).cell 1⟩, (HD.keeps u.keeps).cell 1⟩
                have hY : ∀ (u : After W), u.world.cell? ⟨la, 0, none⟩ = some (.int .i64 (x).kind) ∧ u.world.cell? ⟨la, 1, none⟩ = some (.int .i64 (x).at_) ∧ u.world.cell? ⟨la, 2, none⟩ = some (.int .u64 (x).old) ∧ u.world.cell? ⟨la, 3, none⟩ = some (.int .u64 (x).new) ∧ u.world.cell? ⟨la, 4, none⟩ = some (.bool (x).ok) := fun u => ⟨(H2.LA.keeps u.keeps).cell 0, (H2.LA.keeps u.keeps).cell 1, (H2.LA.keeps u.keeps).cell 2, (H2.LA.keeps u.keeps).cell 3, (H2.LA.keeps u.keeps).cell 4⟩
                (try simp only [] at hY)
                (refine wp_region_after_lit (by kernel_rfl) (by kernel_rfl) ?_; (try simp only [List.append_eq, List.cons_append, List.nil_append]); (repeat (first | go_big_quiet_step ((first | (go_at_call 45; exact calls_after_same (mcount (H2.M.keeps (After.keeps _)))) | (go_at_call 33; exact calls_after (mlast (H2.M.keeps (After.keeps _)))))) | ((with_reducible refine wpQuiet_step (fun K hK => ?_)); go_simp; first | (refine hK _ ?_; clear hK K) | (apply Exists.intro; refine ⟨fun _ => ?_, hK _ ?_⟩; (first | (go_at_call 45; exact calls_after_same (mcount (H2.M.keeps (After.keeps _)))) | (go_at_call 33; exact calls_after (mlast (H2.M.keeps (After.keeps _))))); clear hK K) | (refine ⟨.bool false, fun _ => ?_, hK _ ?_⟩; (simp; done); clear hK K) | (refine ⟨.bool true, fun _ => ?_, hK _ ?_⟩; (simp; done); clear hK K)))); refine wpQuiet_nil ?_; intro _ hw'; obtain ⟨uq, hw''⟩ := hw'; subst hw'')
                go_wp2
                go_roundw
                case rel => exact ⟨k + 1, _, _, _, by omega, by go_num, H2.keeps uq.keeps, by omega⟩
                case measure => simp [intOf]; omega
            · as_aux_lemma =>
                go_upto_region 23 with fail
                refine wp_named (fun W1 hW1 => ?_)
                have KW : Keeps W0 W1 := by rw [hW1]; ((repeat' (first | (with_reducible exact Keeps.refl _) | (with_reducible assumption) | (with_reducible refine Keeps.drewN ?_ _) | (with_reducible refine Keeps.drew ?_) | (with_reducible refine Keeps.alloc ?_ _) | (with_reducible refine Keeps.setCell ?_ ?_ _) | (with_reducible refine Keeps.trans ?_ (After.keeps _)) | (with_reducible refine Keeps.trans ?_ (by with_reducible assumption)) | go_size)); (first | done | fail))
                have H := H.keeps KW
                have HD := HD.keeps KW
                clear hW1
                have F_ := (HD).facts; simp only [blockFacts, listFacts, cellsAt, Nat.reduceAdd, and_true, true_and, and_assoc] at F_
                go_upto_region 58 with (first
                  | (go_at_call 15; refine (number_c _ _ _ (by omega) (by omega)).mono ?_; rintro e w' ⟨rfl, rfl⟩; rw [HK.out])
                  | (go_at_call 43; refine (mpeek_out H.M z1 HO.out).mono ?_; rintro e w' ⟨rfl, rfl⟩))
                refine wp_named (fun W hW => ?_)
                have KW2 : Keeps W1 W := by rw [hW]; ((repeat' (first | (with_reducible exact Keeps.refl _) | (with_reducible assumption) | (with_reducible refine Keeps.drewN ?_ _) | (with_reducible refine Keeps.drew ?_) | (with_reducible refine Keeps.alloc ?_ _) | (with_reducible refine Keeps.setCell ?_ ?_ _) | (with_reducible refine Keeps.trans ?_ (After.keeps _)) | (with_reducible refine Keeps.trans ?_ (by with_reducible assumption)) | go_size)); (first | done | fail))
                have H2 := H.keeps KW2
                have HD := HD.keeps KW2
                clear hW
                have cc2 : c ≤ (k : Int) + 1 := by omega
                have hX : ∀ (u : After W), (u.world.cell? ⟨r, 0, none⟩ = some (.slice (some ⟨rb, 0, none⟩) n n) ∧ u.world.cell? ⟨r, 1, none⟩ = some (.int .i64 (c))) ∧ u.world.cell? ⟨dd, 1, none⟩ = some (.int .i64 z1) := fun u => ⟨⟨(H2.R.hg.keeps u.keeps).cell 0, (H2.R.hg.keeps u.keeps).cell 1⟩, (HD.keeps u.keeps).cell 1⟩
                have hY : ∀ (u : After W), u.world.cell? ⟨la, 0, none⟩ = some (.int .i64 (x).kind) ∧ u.world.cell? ⟨la, 1, none⟩ = some (.int .i64 (x).at_) ∧ u.world.cell? ⟨la, 2, none⟩ = some (.int .u64 (x).old) ∧ u.world.cell? ⟨la, 3, none⟩ = some (.int .u64 (x).new) ∧ u.world.cell? ⟨la, 4, none⟩ = some (.bool (x).ok) := fun u => ⟨(H2.LA.keeps u.keeps).cell 0, (H2.LA.keeps u.keeps).cell 1, (H2.LA.keeps u.keeps).cell 2, (H2.LA.keeps u.keeps).cell 3, (H2.LA.keeps u.keeps).cell 4⟩
                (try simp only [] at hY)
                (refine wp_region_after_lit (by kernel_rfl) (by kernel_rfl) ?_; (try simp only [List.append_eq, List.cons_append, List.nil_append]); (repeat (first | go_big_quiet_step ((first | (go_at_call 45; exact calls_after_same (mcount (H2.M.keeps (After.keeps _)))) | (go_at_call 33; exact calls_after (mlast (H2.M.keeps (After.keeps _)))))) | ((with_reducible refine wpQuiet_step (fun K hK => ?_)); go_simp; first | (refine hK _ ?_; clear hK K) | (apply Exists.intro; refine ⟨fun _ => ?_, hK _ ?_⟩; (first | (go_at_call 45; exact calls_after_same (mcount (H2.M.keeps (After.keeps _)))) | (go_at_call 33; exact calls_after (mlast (H2.M.keeps (After.keeps _))))); clear hK K) | (refine ⟨.bool false, fun _ => ?_, hK _ ?_⟩; (simp; done); clear hK K) | (refine ⟨.bool true, fun _ => ?_, hK _ ?_⟩; (simp; done); clear hK K)))); refine wpQuiet_nil ?_; intro _ hw'; obtain ⟨uq, hw''⟩ := hw'; subst hw'')
                go_wp2
                go_roundw
                case rel => exact ⟨k + 1, _, _, _, by omega, by go_num, H2.keeps uq.keeps, by omega⟩
                case measure => simp [intOf]; omega
            · as_aux_lemma =>
                go_upto_region 23 with fail
                refine wp_named (fun W1 hW1 => ?_)
                have KW : Keeps W0 W1 := by rw [hW1]; ((repeat' (first | (with_reducible exact Keeps.refl _) | (with_reducible assumption) | (with_reducible refine Keeps.drewN ?_ _) | (with_reducible refine Keeps.drew ?_) | (with_reducible refine Keeps.alloc ?_ _) | (with_reducible refine Keeps.setCell ?_ ?_ _) | (with_reducible refine Keeps.trans ?_ (After.keeps _)) | (with_reducible refine Keeps.trans ?_ (by with_reducible assumption)) | go_size)); (first | done | fail))
                have H := H.keeps KW
                have HD := HD.keeps KW
                clear hW1
                have F_ := (HD).facts; simp only [blockFacts, listFacts, cellsAt, Nat.reduceAdd, and_true, true_and, and_assoc] at F_
                go_upto_region 58 with (first
                  | (go_at_call 15; refine (number_c _ _ _ (by omega) (by omega)).mono ?_; rintro e w' ⟨rfl, rfl⟩; rw [HK.out])
                  | (go_at_call 44; refine (mlay_out H.M z1 _ HO.out).mono ?_; rintro e w' ⟨rfl, rfl⟩))
                refine wp_named (fun W hW => ?_)
                have KW2 : Keeps W1 W := by rw [hW]; ((repeat' (first | (with_reducible exact Keeps.refl _) | (with_reducible assumption) | (with_reducible refine Keeps.drewN ?_ _) | (with_reducible refine Keeps.drew ?_) | (with_reducible refine Keeps.alloc ?_ _) | (with_reducible refine Keeps.setCell ?_ ?_ _) | (with_reducible refine Keeps.trans ?_ (After.keeps _)) | (with_reducible refine Keeps.trans ?_ (by with_reducible assumption)) | go_size)); (first | done | fail))
                have H2 := H.keeps KW2
                have HD := HD.keeps KW2
                clear hW
                have cc2 : c ≤ (k : Int) + 1 := by omega
                have hX : ∀ (u : After W), (u.world.cell? ⟨r, 0, none⟩ = some (.slice (some ⟨rb, 0, none⟩) n n) ∧ u.world.cell? ⟨r, 1, none⟩ = some (.int .i64 (c))) ∧ u.world.cell? ⟨dd, 1, none⟩ = some (.int .i64 z1) := fun u => ⟨⟨(H2.R.hg.keeps u.keeps).cell 0, (H2.R.hg.keeps u.keeps).cell 1⟩, (HD.keeps u.keeps).cell 1⟩
                have hY : ∀ (u : After W), u.world.cell? ⟨la, 0, none⟩ = some (.int .i64 (x).kind) ∧ u.world.cell? ⟨la, 1, none⟩ = some (.int .i64 (x).at_) ∧ u.world.cell? ⟨la, 2, none⟩ = some (.int .u64 (x).old) ∧ u.world.cell? ⟨la, 3, none⟩ = some (.int .u64 (x).new) ∧ u.world.cell? ⟨la, 4, none⟩ = some (.bool (x).ok) := fun u => ⟨(H2.LA.keeps u.keeps).cell 0, (H2.LA.keeps u.keeps).cell 1, (H2.LA.keeps u.keeps).cell 2, (H2.LA.keeps u.keeps).cell 3, (H2.LA.keeps u.keeps).cell 4⟩
                (try simp only [] at hY)
                (refine wp_region_after_lit (by kernel_rfl) (by kernel_rfl) ?_; (try simp only [List.append_eq, List.cons_append, List.nil_append]); (repeat (first | go_big_quiet_step ((first | (go_at_call 45; exact calls_after_same (mcount (H2.M.keeps (After.keeps _)))) | (go_at_call 33; exact calls_after (mlast (H2.M.keeps (After.keeps _)))))) | ((with_reducible refine wpQuiet_step (fun K hK => ?_)); go_simp; first | (refine hK _ ?_; clear hK K) | (apply Exists.intro; refine ⟨fun _ => ?_, hK _ ?_⟩; (first | (go_at_call 45; exact calls_after_same (mcount (H2.M.keeps (After.keeps _)))) | (go_at_call 33; exact calls_after (mlast (H2.M.keeps (After.keeps _))))); clear hK K) | (refine ⟨.bool false, fun _ => ?_, hK _ ?_⟩; (simp; done); clear hK K) | (refine ⟨.bool true, fun _ => ?_, hK _ ?_⟩; (simp; done); clear hK K)))); refine wpQuiet_nil ?_; intro _ hw'; obtain ⟨uq, hw''⟩ := hw'; subst hw'')
                go_wp2
                go_roundw
                case rel => exact ⟨k + 1, _, _, _, by omega, by go_num, H2.keeps uq.keeps, by omega⟩
                case measure => simp [intOf]; omega
          have hnn : 0 ≤ z1 := by omega
          have hnm : (n : Int) ≤ z1 := by omega
          have hnd : decide (z1 < (n : Int)) = false := decide_eq_false (by omega)
          have ho : z1 < 0 ∨ (n : Int) ≤ z1 := .inr hnm
          clear hin
          have HO := Lib.hid ho
          clear ho
          rcases hq with hq | hq | hq | hq | hq | hq
          all_goals have HK := Lib.hid hq
          all_goals clear hq
          · as_aux_lemma =>
              go_upto_region 23 with fail
              refine wp_named (fun W1 hW1 => ?_)
              have KW : Keeps W0 W1 := by rw [hW1]; ((repeat' (first | (with_reducible exact Keeps.refl _) | (with_reducible assumption) | (with_reducible refine Keeps.drewN ?_ _) | (with_reducible refine Keeps.drew ?_) | (with_reducible refine Keeps.alloc ?_ _) | (with_reducible refine Keeps.setCell ?_ ?_ _) | (with_reducible refine Keeps.trans ?_ (After.keeps _)) | (with_reducible refine Keeps.trans ?_ (by with_reducible assumption)) | go_size)); (first | done | fail))
              have H := H.keeps KW
              have HD := HD.keeps KW
              clear hW1
              have F_ := (HD).facts; simp only [blockFacts, listFacts, cellsAt, Nat.reduceAdd, and_true, true_and, and_assoc] at F_
              go_upto_region 58 with (first
                | (go_at_call 15; refine (number_c _ _ _ (by omega) (by omega)).mono ?_; rintro e w' ⟨rfl, rfl⟩; rw [HK.out])
                | (go_at_call 35; refine (mload_out H.M z1 HO.out).mono ?_; rintro e w' ⟨rfl, rfl⟩))
              refine wp_named (fun W hW => ?_)
              have KW2 : Keeps W1 W := by rw [hW]; ((repeat' (first | (with_reducible exact Keeps.refl _) | (with_reducible assumption) | (with_reducible refine Keeps.drewN ?_ _) | (with_reducible refine Keeps.drew ?_) | (with_reducible refine Keeps.alloc ?_ _) | (with_reducible refine Keeps.setCell ?_ ?_ _) | (with_reducible refine Keeps.trans ?_ (After.keeps _)) | (with_reducible refine Keeps.trans ?_ (by with_reducible assumption)) | go_size)); (first | done | fail))
              have H2 := H.keeps KW2
              have HD := HD.keeps KW2
              clear hW
              have cc2 : c ≤ (k : Int) + 1 := by omega
              have hX : ∀ (u : After W), (u.world.cell? ⟨r, 0, none⟩ = some (.slice (some ⟨rb, 0, none⟩) n n) ∧ u.world.cell? ⟨r, 1, none⟩ = some (.int .i64 (c))) ∧ u.world.cell? ⟨dd, 1, none⟩ = some (.int .i64 z1) := fun u => ⟨⟨(H2.R.hg.keeps u.keeps).cell 0, (H2.R.hg.keeps u.keeps).cell 1⟩, (HD.keeps u.keeps).cell 1⟩
              have hY : ∀ (u : After W), u.world.cell? ⟨la, 0, none⟩ = some (.int .i64 (x).kind) ∧ u.world.cell? ⟨la, 1, none⟩ = some (.int .i64 (x).at_) ∧ u.world.cell? ⟨la, 2, none⟩ = some (.int .u64 (x).old) ∧ u.world.cell? ⟨la, 3, none⟩ = some (.int .u64 (x).new) ∧ u.world.cell? ⟨la, 4, none⟩ = some (.bool (x).ok) := fun u => ⟨(H2.LA.keeps u.keeps).cell 0, (H2.LA.keeps u.keeps).cell 1, (H2.LA.keeps u.keeps).cell 2, (H2.LA.keeps u.keeps).cell 3, (H2.LA.keeps u.keeps).cell 4⟩
              (try simp only [] at hY)
              (refine wp_region_after_lit (by kernel_rfl) (by kernel_rfl) ?_; (try simp only [List.append_eq, List.cons_append, List.nil_append]); (repeat (first | go_big_quiet_step ((first | (go_at_call 45; exact calls_after_same (mcount (H2.M.keeps (After.keeps _)))) | (go_at_call 33; exact calls_after (mlast (H2.M.keeps (After.keeps _)))))) | ((with_reducible refine wpQuiet_step (fun K hK => ?_)); go_simp; first | (refine hK _ ?_; clear hK K) | (apply Exists.intro; refine ⟨fun _ => ?_, hK _ ?_⟩; (first | (go_at_call 45; exact calls_after_same (mcount (H2.M.keeps (After.keeps _)))) | (go_at_call 33; exact calls_after (mlast (H2.M.keeps (After.keeps _))))); clear hK K) | (refine ⟨.bool false, fun _ => ?_, hK _ ?_⟩; (simp; done); clear hK K) | (refine ⟨.bool true, fun _ => ?_, hK _ ?_⟩; (simp; done); clear hK K)))); refine wpQuiet_nil ?_; intro _ hw'; obtain ⟨uq, hw''⟩ := hw'; subst hw'')
              go_wp2
              go_roundw
              case rel => exact ⟨k + 1, _, _, _, by omega, by go_num, H2.keeps uq.keeps, by omega⟩
              case measure => simp [intOf]; omega
          · as_aux_lemma =>
              go_upto_region 23 with fail
              refine wp_named (fun W1 hW1 => ?_)
              have KW : Keeps W0 W1 := by rw [hW1]; ((repeat' (first | (with_reducible exact Keeps.refl _) | (with_reducible assumption) | (with_reducible refine Keeps.drewN ?_ _) | (with_reducible refine Keeps.drew ?_) | (with_reducible refine Keeps.alloc ?_ _) | (with_reducible refine Keeps.setCell ?_ ?_ _) | (with_reducible refine Keeps.trans ?_ (After.keeps _)) | (with_reducible refine Keeps.trans ?_ (by with_reducible assumption)) | go_size)); (first | done | fail))
              have H := H.keeps KW
              have HD := HD.keeps KW
              clear hW1
              have F_ := (HD).facts; simp only [blockFacts, listFacts, cellsAt, Nat.reduceAdd, and_true, true_and, and_assoc] at F_
              go_upto_region 58 with (first
                | (go_at_call 15; refine (number_c _ _ _ (by omega) (by omega)).mono ?_; rintro e w' ⟨rfl, rfl⟩; rw [HK.out])
                | (go_at_call 37; refine (mstore_out H.M z1 _ HO.out).mono ?_; rintro e w' ⟨rfl, rfl⟩))
              refine wp_named (fun W hW => ?_)
              have KW2 : Keeps W1 W := by rw [hW]; ((repeat' (first | (with_reducible exact Keeps.refl _) | (with_reducible assumption) | (with_reducible refine Keeps.drewN ?_ _) | (with_reducible refine Keeps.drew ?_) | (with_reducible refine Keeps.alloc ?_ _) | (with_reducible refine Keeps.setCell ?_ ?_ _) | (with_reducible refine Keeps.trans ?_ (After.keeps _)) | (with_reducible refine Keeps.trans ?_ (by with_reducible assumption)) | go_size)); (first | done | fail))
              have H2 := H.keeps KW2
              have HD := HD.keeps KW2
              clear hW
              have cc2 : c ≤ (k : Int) + 1 := by omega
              have hX : ∀ (u : After W), (u.world.cell? ⟨r, 0, none⟩ = some (.slice (some ⟨rb, 0, none⟩) n n) ∧ u.world.cell? ⟨r, 1, none⟩ = some (.int .i64 (c))) ∧ u.world.cell? ⟨dd, 1, none⟩ = some (.int .i64 z1) := fun u => ⟨⟨(H2.R.hg.keeps u.keeps).cell 0, (H2.R.hg.keeps u.keeps).cell 1⟩, (HD.keeps u.keeps).cell 1⟩
              have hY : ∀ (u : After W), u.world.cell? ⟨la, 0, none⟩ = some (.int .i64 (x).kind) ∧ u.world.cell? ⟨la, 1, none⟩ = some (.int .i64 (x).at_) ∧ u.world.cell? ⟨la, 2, none⟩ = some (.int .u64 (x).old) ∧ u.world.cell? ⟨la, 3, none⟩ = some (.int .u64 (x).new) ∧ u.world.cell? ⟨la, 4, none⟩ = some (.bool (x).ok) := fun u => ⟨(H2.LA.keeps u.keeps).cell 0, (H2.LA.keeps u.keeps).cell 1, (H2.LA.keeps u.keeps).cell 2, (H2.LA.keeps u.keeps).cell 3, (H2.LA.keeps u.keeps).cell 4⟩
              (try simp only [] at hY)
              (refine wp_region_after_lit (by kernel_rfl) (by kernel_rfl) ?_; (try simp only [List.append_eq, List.cons_append, List.nil_append]); (repeat (first | go_big_quiet_step ((first | (go_at_call 45; exact calls_after_same (mcount (H2.M.keeps (After.keeps _)))) | (go_at_call 33; exact calls_after (mlast (H2.M.keeps (After.keeps _)))))) | ((with_reducible refine wpQuiet_step (fun K hK => ?_)); go_simp; first | (refine hK _ ?_; clear hK K) | (apply Exists.intro; refine ⟨fun _ => ?_, hK _ ?_⟩; (first | (go_at_call 45; exact calls_after_same (mcount (H2.M.keeps (After.keeps _)))) | (go_at_call 33; exact calls_after (mlast (H2.M.keeps (After.keeps _))))); clear hK K) | (refine ⟨.bool false, fun _ => ?_, hK _ ?_⟩; (simp; done); clear hK K) | (refine ⟨.bool true, fun _ => ?_, hK _ ?_⟩; (simp; done); clear hK K)))); refine wpQuiet_nil ?_; intro _ hw'; obtain ⟨uq, hw''⟩ := hw'; subst hw'')
              go_wp2
              go_roundw
              case rel => exact ⟨k + 1, _, _, _, by omega, by go_num, H2.keeps uq.keeps, by omega⟩
              case measure => simp [intOf]; omega
          · as_aux_lemma =>
              go_upto_region 23 with fail
              refine wp_named (fun W1 hW1 => ?_)
              have KW : Keeps W0 W1 := by rw [hW1]; ((repeat' (first | (with_reducible exact Keeps.refl _) | (with_reducible assumption) | (with_reducible refine Keeps.drewN ?_ _) | (with_reducible refine Keeps.drew ?_) | (with_reducible refine Keeps.alloc ?_ _) | (with_reducible refine Keeps.setCell ?_ ?_ _) | (with_reducible refine Keeps.trans ?_ (After.keeps _)) | (with_reducible refine Keeps.trans ?_ (by with_reducible assumption)) | go_size)); (first | done | fail))
              have H := H.keeps KW
              have HD := HD.keeps KW
              clear hW1
              have F_ := (HD).facts; simp only [blockFacts, listFacts, cellsAt, Nat.reduceAdd, and_true, true_and, and_assoc] at F_
              go_upto_region 58 with (first
                | (go_at_call 15; refine (number_c _ _ _ (by omega) (by omega)).mono ?_; rintro e w' ⟨rfl, rfl⟩; rw [HK.out])
                | (go_at_call 39; refine (mcas_out H.M z1 _ _ HO.out).mono ?_; rintro e w' ⟨rfl, rfl⟩))
              refine wp_named (fun W hW => ?_)
              have KW2 : Keeps W1 W := by rw [hW]; ((repeat' (first | (with_reducible exact Keeps.refl _) | (with_reducible assumption) | (with_reducible refine Keeps.drewN ?_ _) | (with_reducible refine Keeps.drew ?_) | (with_reducible refine Keeps.alloc ?_ _) | (with_reducible refine Keeps.setCell ?_ ?_ _) | (with_reducible refine Keeps.trans ?_ (After.keeps _)) | (with_reducible refine Keeps.trans ?_ (by with_reducible assumption)) | go_size)); (first | done | fail))
              have H2 := H.keeps KW2
              have HD := HD.keeps KW2
              clear hW
              have cc2 : c ≤ (k : Int) + 1 := by omega
              have hX : ∀ (u : After W), (u.world.cell? ⟨r, 0, none⟩ = some (.slice (some ⟨rb, 0, none⟩) n n) ∧ u.world.cell? ⟨r, 1, none⟩ = some (.int .i64 (c))) ∧ u.world.cell? ⟨dd, 1, none⟩ = some (.int .i64 z1) := fun u => ⟨⟨(H2.R.hg.keeps u.keeps).cell 0, (H2.R.hg.keeps u.keeps).cell 1⟩, (HD.keeps u.keeps).cell 1⟩
              have hY : ∀ (u : After W), u.world.cell? ⟨la, 0, none⟩ = some (.int .i64 (x).kind) ∧ u.world.cell? ⟨la, 1, none⟩ = some (.int .i64 (x).at_) ∧ u.world.cell? ⟨la, 2, none⟩ = some (.int .u64 (x).old) ∧ u.world.cell? ⟨la, 3, none⟩ = some (.int .u64 (x).new) ∧ u.world.cell? ⟨la, 4, none⟩ = some (.bool (x).ok) := fun u => ⟨(H2.LA.keeps u.keeps).cell 0, (H2.LA.keeps u.keeps).cell 1, (H2.LA.keeps u.keeps).cell 2, (H2.LA.keeps u.keeps).cell 3, (H2.LA.keeps u.keeps).cell 4⟩
              (try simp only [] at hY)
              (refine wp_region_after_lit (by kernel_rfl) (by kernel_rfl) ?_; (try simp only [List.append_eq, List.cons_append, List.nil_append]); (repeat (first | go_big_quiet_step ((first | (go_at_call 45; exact calls_after_same (mcount (H2.M.keeps (After.keeps _)))) | (go_at_call 33; exact calls_after (mlast (H2.M.keeps (After.keeps _)))))) | ((with_reducible refine wpQuiet_step (fun K hK => ?_)); go_simp; first | (refine hK _ ?_; clear hK K) | (apply Exists.intro; refine ⟨fun _ => ?_, hK _ ?_⟩; (first | (go_at_call 45; exact calls_after_same (mcount (H2.M.keeps (After.keeps _)))) | (go_at_call 33; exact calls_after (mlast (H2.M.keeps (After.keeps _))))); clear hK K) | (refine ⟨.bool false, fun _ => ?_, hK _ ?_⟩; (simp; done); clear hK K) | (refine ⟨.bool true, fun _ => ?_, hK _ ?_⟩; (simp; done); clear hK K)))); refine wpQuiet_nil ?_; intro _ hw'; obtain ⟨uq, hw''⟩ := hw'; subst hw'')
              go_wp2
              go_roundw
              case rel => exact ⟨k + 1, _, _, _, by omega, by go_num, H2.keeps uq.keeps, by omega⟩
              case measure => simp [intOf]; omega
          · as_aux_lemma =>
              go_upto_region 23 with fail
              refine wp_named (fun W1 hW1 => ?_)
              have KW : Keeps W0 W1 := by rw [hW1]; ((repeat' (first | (with_reducible exact Keeps.refl _) | (with_reducible assumption) | (with_reducible refine Keeps.drewN ?_ _) | (with_reducible refine Keeps.drew ?_) | (with_reducible refine Keeps.alloc ?_ _) | (with_reducible refine Keeps.setCell ?_ ?_ _) | (with_reducible refine Keeps.trans ?_ (After.keeps _)) | (with_reducible refine Keeps.trans ?_ (by with_reducible assumption)) | go_size)); (first | done | fail))
              have H := H.keeps KW
              have HD := HD.keeps KW
              clear hW1
              have F_ := (HD).facts; simp only [blockFacts, listFacts, cellsAt, Nat.reduceAdd, and_true, true_and, and_assoc] at F_
              go_upto_region 58 with (first
                | (go_at_call 15; refine (number_c _ _ _ (by omega) (by omega)).mono ?_; rintro e w' ⟨rfl, rfl⟩; rw [HK.out])
                | (go_at_call 41; refine (madd_out H.M z1 _ HO.out).mono ?_; rintro e w' ⟨rfl, rfl⟩))
              refine wp_named (fun W hW => ?_)
              have KW2 : Keeps W1 W := by rw [hW]; ((repeat' (first | (with_reducible exact Keeps.refl _) | (with_reducible assumption) | (with_reducible refine Keeps.drewN ?_ _) | (with_reducible refine Keeps.drew ?_) | (with_reducible refine Keeps.alloc ?_ _) | (with_reducible refine Keeps.setCell ?_ ?_ _) | (with_reducible refine Keeps.trans ?_ (After.keeps _)) | (with_reducible refine Keeps.trans ?_ (by with_reducible assumption)) | go_size)); (first | done | fail))
              have H2 := H.keeps KW2
              have HD := HD.keeps KW2
              clear hW
              have cc2 : c ≤ (k : Int) + 1 := by omega
              have hX : ∀ (u : After W), (u.world.cell? ⟨r, 0, none⟩ = some (.slice (some ⟨rb, 0, none⟩) n n) ∧ u.world.cell? ⟨r, 1, none⟩ = some (.int .i64 (c))) ∧ u.world.cell? ⟨dd, 1, none⟩ = some (.int .i64 z1) := fun u => ⟨⟨(H2.R.hg.keeps u.keeps).cell 0, (H2.R.hg.keeps u.keeps).cell 1⟩, (HD.keeps u.keeps).cell 1⟩
              have hY : ∀ (u : After W), u.world.cell? ⟨la, 0, none⟩ = some (.int .i64 (x).kind) ∧ u.world.cell? ⟨la, 1, none⟩ = some (.int .i64 (x).at_) ∧ u.world.cell? ⟨la, 2, none⟩ = some (.int .u64 (x).old) ∧ u.world.cell? ⟨la, 3, none⟩ = some (.int .u64 (x).new) ∧ u.world.cell? ⟨la, 4, none⟩ = some (.bool (x).ok) := fun u => ⟨(H2.LA.keeps u.keeps).cell 0, (H2.LA.keeps u.keeps).cell 1, (H2.LA.keeps u.keeps).cell 2, (H2.LA.keeps u.keeps).cell 3, (H2.LA.keeps u.keeps).cell 4⟩
              (try simp only [] at hY)
              (refine wp_region_after_lit (by kernel_rfl) (by kernel_rfl) ?_; (try simp only [List.append_eq, List.cons_append, List.nil_append]); (repeat (first | go_big_quiet_step ((first | (go_at_call 45; exact calls_after_same (mcount (H2.M.keeps (After.keeps _)))) | (go_at_call 33; exact calls_after (mlast (H2.M.keeps (After.keeps _)))))) | ((with_reducible refine wpQuiet_step (fun K hK => ?_)); go_simp; first | (refine hK _ ?_; clear hK K) | (apply Exists.intro; refine ⟨fun _ => ?_, hK _ ?_⟩; (first | (go_at_call 45; exact calls_after_same (mcount (H2.M.keeps (After.keeps _)))) | (go_at_call 33; exact calls_after (mlast (H2.M.keeps (After.keeps _))))); clear hK K) | (refine ⟨.bool false, fun _ => ?_, hK _ ?_⟩; (simp; done); clear hK K) | (refine ⟨.bool true, fun _ => ?_, hK _ ?_⟩; (simp; done); clear hK K)))); refine wpQuiet_nil ?_; intro _ hw'; obtain ⟨uq, hw''⟩ := hw'; subst hw'')
              go_wp2
              go_roundw
              case rel => exact ⟨k + 1, _, _, _, by omega, by go_num, H2.keeps uq.keeps, by omega⟩
              case measure => simp [intOf]; omega
          · as_aux_lemma =>
              go_upto_region 23 with fail
              refine wp_named (fun W1 hW1 => ?_)
              have KW : Keeps W0 W1 := by rw [hW1]; ((repeat' (first | (with_reducible exact Keeps.refl _) | (with_reducible assumption) | (with_reducible refine Keeps.drewN ?_ _) | (with_reducible refine Keeps.drew ?_) | (with_reducible refine Keeps.alloc ?_ _) | (with_reducible refine Keeps.setCell ?_ ?_ _) | (with_reducible refine Keeps.trans ?_ (After.keeps _)) | (with_reducible refine Keeps.trans ?_ (by with_reducible assumption)) | go_size)); (first | done | fail))
              have H := H.keeps KW
              have HD := HD.keeps KW
              clear hW1
              have F_ := (HD).facts; simp only [blockFacts, listFacts, cellsAt, Nat.reduceAdd, and_true, true_and, and_assoc] at F_
              go_upto_region 58 with (first
                | (go_at_call 15; refine (number_c _ _ _ (by omega) (by omega)).mono ?_; rintro e w' ⟨rfl, rfl⟩; rw [HK.out])
                | (go_at_call 43; refine (mpeek_out H.M z1 HO.out).mono ?_; rintro e w' ⟨rfl, rfl⟩))
              refine wp_named (fun W hW => ?_)
              have KW2 : Keeps W1 W := by rw [hW]; ((repeat' (first | (with_reducible exact Keeps.refl _) | (with_reducible assumption) | (with_reducible refine Keeps.drewN ?_ _) | (with_reducible refine Keeps.drew ?_) | (with_reducible refine Keeps.alloc ?_ _) | (with_reducible refine Keeps.setCell ?_ ?_ _) | (with_reducible refine Keeps.trans ?_ (After.keeps _)) | (with_reducible refine Keeps.trans ?_ (by with_reducible assumption)) | go_size)); (first | done | fail))
              have H2 := H.keeps KW2
              have HD := HD.keeps KW2
              clear hW
              have cc2 : c ≤ (k : Int) + 1 := by omega
              have hX : ∀ (u : After W), (u.world.cell? ⟨r, 0, none⟩ = some (.slice (some ⟨rb, 0, none⟩) n n) ∧ u.world.cell? ⟨r, 1, none⟩ = some (.int .i64 (c))) ∧ u.world.cell? ⟨dd, 1, none⟩ = some (.int .i64 z1) := fun u => ⟨⟨(H2.R.hg.keeps u.keeps).cell 0, (H2.R.hg.keeps u.keeps).cell 1⟩, (HD.keeps u.keeps).cell 1⟩
              have hY : ∀ (u : After W), u.world.cell? ⟨la, 0, none⟩ = some (.int .i64 (x).kind) ∧ u.world.cell? ⟨la, 1, none⟩ = some (.int .i64 (x).at_) ∧ u.world.cell? ⟨la, 2, none⟩ = some (.int .u64 (x).old) ∧ u.world.cell? ⟨la, 3, none⟩ = some (.int .u64 (x).new) ∧ u.world.cell? ⟨la, 4, none⟩ = some (.bool (x).ok) := fun u => ⟨(H2.LA.keeps u.keeps).cell 0, (H2.LA.keeps u.keeps).cell 1, (H2.LA.keeps u.keeps).cell 2, (H2.LA.keeps u.keeps).cell 3, (H2.LA.keeps u.keeps).cell 4⟩
              (try simp only [] at hY)
              (refine wp_region_after_lit (by kernel_rfl) (by kernel_rfl) ?_; (try simp only [List.append_eq, List.cons_append, List.nil_append]); (repeat (first | go_big_quiet_step ((first | (go_at_call 45; exact calls_after_same (mcount (H2.M.keeps (After.keeps _)))) | (go_at_call 33; exact calls_after (mlast (H2.M.keeps (After.keeps _)))))) | ((with_reducible refine wpQuiet_step (fun K hK => ?_)); go_simp; first | (refine hK _ ?_; clear hK K) | (apply Exists.intro; refine ⟨fun _ => ?_, hK _ ?_⟩; (first | (go_at_call 45; exact calls_after_same (mcount (H2.M.keeps (After.keeps _)))) | (go_at_call 33; exact calls_after (mlast (H2.M.keeps (After.keeps _))))); clear hK K) | (refine ⟨.bool false, fun _ => ?_, hK _ ?_⟩; (simp; done); clear hK K) | (refine ⟨.bool true, fun _ => ?_, hK _ ?_⟩; (simp; done); clear hK K)))); refine wpQuiet_nil ?_; intro _ hw'; obtain ⟨uq, hw''⟩ := hw'; subst hw'')
              go_wp2
              go_roundw
              case rel => exact ⟨k + 1, _, _, _, by omega, by go_num, H2.keeps uq.keeps, by omega⟩
              case measure => simp [intOf]; omega
          · as_aux_lemma =>
              go_upto_region 23 with fail
              refine wp_named (fun W1 hW1 => ?_)
              have KW : Keeps W0 W1 := by rw [hW1]; ((repeat' (first | (with_reducible exact Keeps.refl _) | (with_reducible assumption) | (with_reducible refine Keeps.drewN ?_ _) | (with_reducible refine Keeps.drew ?_) | (with_reducible refine Keeps.alloc ?_ _) | (with_reducible refine Keeps.setCell ?_ ?_ _) | (with_reducible refine Keeps.trans ?_ (After.keeps _)) | (with_reducible refine Keeps.trans ?_ (by with_reducible assumption)) | go_size)); (first | done | fail))
              have H := H.keeps KW
              have HD := HD.keeps KW
              clear hW1
              have F_ := (HD).facts; simp only [blockFacts, listFacts, cellsAt, Nat.reduceAdd, and_true, true_and, and_assoc] at F_
              go_upto_region 58 with (first
                | (go_at_call 15; refine (number_c _ _ _ (by omega) (by omega)).mono ?_; rintro e w' ⟨rfl, rfl⟩; rw [HK.out])
                | (go_at_call 44; refine (mlay_out H.M z1 _ HO.out).mono ?_; rintro e w' ⟨rfl, rfl⟩))
              refine wp_named (fun W hW => ?_)
              have KW2 : Keeps W1 W := by rw [hW]; ((repeat' (first | (with_reducible exact Keeps.refl _) | (with_reducible assumption) | (with_reducible refine Keeps.drewN ?_ _) | (with_reducible refine Keeps.drew ?_) | (with_reducible refine Keeps.alloc ?_ _) | (with_reducible refine Keeps.setCell ?_ ?_ _) | (with_reducible refine Keeps.trans ?_ (After.keeps _)) | (with_reducible refine Keeps.trans ?_ (by with_reducible assumption)) | go_size)); (first | done | fail))
              have H2 := H.keeps KW2
              have HD := HD.keeps KW2
              clear hW
              have cc2 : c ≤ (k : Int) + 1 := by omega
              have hX : ∀ (u : After W), (u.world.cell? ⟨r, 0, none⟩ = some (.slice (some ⟨rb, 0, none⟩) n n) ∧ u.world.cell? ⟨r, 1, none⟩ = some (.int .i64 (c))) ∧ u.world.cell? ⟨dd, 1, none⟩ = some (.int .i64 z1) := fun u => ⟨⟨(H2.R.hg.keeps u.keeps).cell 0, (H2.R.hg.keeps u.keeps).cell 1⟩, (HD.keeps u.keeps).cell 1⟩
              have hY : ∀ (u : After W), u.world.cell? ⟨la, 0, none⟩ = some (.int .i64 (x).kind) ∧ u.world.cell? ⟨la, 1, none⟩ = some (.int .i64 (x).at_) ∧ u.world.cell? ⟨la, 2, none⟩ = some (.int .u64 (x).old) ∧ u.world.cell? ⟨la, 3, none⟩ = some (.int .u64 (x).new) ∧ u.world.cell? ⟨la, 4, none⟩ = some (.bool (x).ok) := fun u => ⟨(H2.LA.keeps u.keeps).cell 0, (H2.LA.keeps u.keeps).cell 1, (H2.LA.keeps u.keeps).cell 2, (H2.LA.keeps u.keeps).cell 3, (H2.LA.keeps u.keeps).cell 4⟩
              (try simp only [] at hY)
              (refine wp_region_after_lit (by kernel_rfl) (by kernel_rfl) ?_; (try simp only [List.append_eq, List.cons_append, List.nil_append]); (repeat (first | go_big_quiet_step ((first | (go_at_call 45; exact calls_after_same (mcount (H2.M.keeps (After.keeps _)))) | (go_at_call 33; exact calls_after (mlast (H2.M.keeps (After.keeps _)))))) | ((with_reducible refine wpQuiet_step (fun K hK => ?_)); go_simp; first | (refine hK _ ?_; clear hK K) | (apply Exists.intro; refine ⟨fun _ => ?_, hK _ ?_⟩; (first | (go_at_call 45; exact calls_after_same (mcount (H2.M.keeps (After.keeps _)))) | (go_at_call 33; exact calls_after (mlast (H2.M.keeps (After.keeps _))))); clear hK K) | (refine ⟨.bool false, fun _ => ?_, hK _ ?_⟩; (simp; done); clear hK K) | (refine ⟨.bool true, fun _ => ?_, hK _ ?_⟩; (simp; done); clear hK K)))); refine wpQuiet_nil ?_; intro _ hw'; obtain ⟨uq, hw''⟩ := hw'; subst hw'')
              go_wp2
              go_roundw
              case rel => exact ⟨k + 1, _, _, _, by omega, by go_num, H2.keeps uq.keeps, by omega⟩
              case measure => simp [intOf]; omega
      · obtain rfl : k = zs.length := by omega
        go_wp2
        go_ret
        exact ⟨rfl, H.K⟩
end Go.Proofs.Ytkpagkopfdblgaa
