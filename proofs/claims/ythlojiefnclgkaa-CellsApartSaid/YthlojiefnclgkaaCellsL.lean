/- The laws on cells: each walked, by the contracts of what it calls. -/
import Derived.Test.YthlojiefnclgkaaMem
import Derived.Test.YthlojiefnclgkaaNum
namespace Go.Proofs.Ythlojiefnclgkaa
set_option linter.unusedVariables false
set_option linter.unusedSimpArgs false
open Go Go.RowKit
set_option maxRecDepth 100000


set_option maxHeartbeats 400000 in
theorem cfirst_c (w : World) : Calls Try.prog 31 #[] w fun e w' => e = .returned (.bool true) ∧ Keeps w w' := by
  have e1 : Hid (IntKind.u64.wrap (0 + 5) = 5) := by show _ = _; decide +kernel
  have e2 : Hid (IntKind.u64.wrap (5 + 3) = 8) := by show _ = _; decide +kernel
  go_enter Try.func31, Try.ntmps31
  go_wp2_with (first
    | (go_at_call 32; refine (mnew 2 _ (by omega) (by omega)).mono ?_; rintro e w' ⟨g, b, rfl, K, hg1, hb1, M⟩; have M : Mem _ g b 2 [0, 0] 0 _ := M)
    | (go_at_call 33; refine (madd_in (l := [0, 0]) M 1 (o := 0) _ (by rfl) (by omega)).mono ?_; rintro e w' ⟨rfl, hu, M⟩; have K := K.upd2 hu hg1 hb1; rw [e1.out] at M; have M : Mem _ g b 2 [0, 5] 1 _ := M)
    | (go_at_call 33; refine (madd_in (l := [0, 5]) M 1 (o := 5) _ (by rfl) (by omega)).mono ?_; rintro e w' ⟨rfl, hu, M⟩; have K := K.upd2 hu hg1 hb1; rw [e2.out] at M; have M : Mem _ g b 2 [0, 8] 2 _ := M)
    | (go_at_call 53; refine (mlast M).mono ?_; rintro e w' ⟨rfl, hk⟩; have M := M.keeps hk; have K := K.trans hk)
    | (go_at_call 35; refine (mcount (by repeat' (first | (with_reducible assumption) | (with_reducible apply Mem.alloc) | (with_reducible apply Mem.drewN) | (with_reducible apply Mem.drew) | (with_reducible apply Mem.far; (case h1 => first | assumption | (simp; done) | (intro e_; simp at e_; omega)); (case h2 => first | assumption | (simp; done) | (intro e_; simp at e_; omega)))))).mono ?_; rintro e w' ⟨rfl, rfl⟩)
    | (go_at_call 52; refine (mlen (by repeat' (first | (with_reducible assumption) | (with_reducible apply Mem.alloc) | (with_reducible apply Mem.drewN) | (with_reducible apply Mem.drew) | (with_reducible apply Mem.far; (case h1 => first | assumption | (simp; done) | (intro e_; simp at e_; omega)); (case h2 => first | assumption | (simp; done) | (intro e_; simp at e_; omega)))))).mono ?_; rintro e w' ⟨rfl, rfl⟩))
  go_ret
  exact ⟨rfl, by (repeat' (first | (with_reducible exact Keeps.refl _) | (with_reducible assumption) | (with_reducible refine Keeps.drewN ?_ _) | (with_reducible refine Keeps.drew ?_) | (with_reducible refine Keeps.alloc ?_ _) | (with_reducible refine Keeps.setCell ?_ ?_ _) | (with_reducible refine Keeps.trans ?_ (After.keeps _)) | (with_reducible refine Keeps.trans ?_ (by with_reducible assumption)) | go_size))⟩

/-- The sum of the first k. -/
def sumTo (zs : List Int) : Nat → Int
  | 0 => 0
  | k + 1 => IntKind.u64.wrap (sumTo zs k + zs.getD k 0)

theorem sumTo_succ (zs : List Int) {k : Nat} (h : k < zs.length) : sumTo zs (k + 1) = IntKind.u64.wrap (sumTo zs k + zs[k]) := by simp [sumTo, h]

theorem cellsAdds_c (v : Value) (zs : List Int) (w : World) (hr : Reads .u64 w v zs) : Calls Try.prog 3 #[v] w fun e w' => e = .returned (.bool true) ∧ Keeps w w' := by
  obtain ⟨a, cap, rfl, hr⟩ := hr
  have HR := Lib.hid hr
  clear hr
  by_cases hl : 60 < zs.length
  · go_enter Try.func3, Try.ntmps3
    go_wp2_with (first
      | (go_at_call 31; refine (cfirst_c _).mono ?_; rintro e w' ⟨rfl, K⟩)
      | (go_at_call 32; refine (mnew 1 _ (by omega) (by omega)).mono ?_; rintro e w' ⟨g, b, rfl, hk, hg1, hb1, M⟩; have K := K.trans hk))
    go_ret
    exact ⟨rfl, by (repeat' (first | (with_reducible exact Keeps.refl _) | (with_reducible assumption) | (with_reducible refine Keeps.drewN ?_ _) | (with_reducible refine Keeps.drew ?_) | (with_reducible refine Keeps.alloc ?_ _) | (with_reducible refine Keeps.setCell ?_ ?_ _) | (with_reducible refine Keeps.trans ?_ (After.keeps _)) | (with_reducible refine Keeps.trans ?_ (by with_reducible assumption)) | go_size))⟩
  · go_enter Try.func3, Try.ntmps3
    go_wp2_with (first
      | (go_at_call 31; refine (cfirst_c _).mono ?_; rintro e w' ⟨rfl, K⟩)
      | (go_at_call 32; refine (mnew 1 _ (by omega) (by omega)).mono ?_; rintro e w' ⟨g, b, rfl, hk, hg1, hb1, M⟩; have hg1 := Nat.le_trans K.size hg1; have hb1 := Nat.le_trans K.size hb1; have K := K.trans hk; have M : Mem _ g b 1 [0] 0 _ := M))
    go_loopw [6, 7] (fun s i wr => ∃ (k : Nat) (x : Acc), k ≤ zs.length ∧ i = .int .i64 k ∧ s = .int .u64 (sumTo zs k) ∧ Mem wr g b 1 [sumTo zs k] k x ∧ Keeps w wr) (fun _ i _ => zs.length - (intOf i).toNat)
    case atStart => exact ⟨0, _, by omega, rfl, rfl, M, K⟩
    case round =>
      clear K M hk
      obtain ⟨k, x, hk, rfl, rfl, M, K⟩ := hrel
      by_cases hlt : k < zs.length
      · obtain ⟨bb, off, rfl, hb, hc⟩ := HR.out (by rintro rfl; simp at hlt)
        have HC : Hid (∀ W, Keeps w W → W.cell? ⟨bb, off + k, none⟩ = some (.int .u64 (zs.getD k 0))) := by
          show ∀ W, Keeps w W → W.cell? ⟨bb, off + k, none⟩ = some (.int .u64 (zs.getD k 0))
          intro W hW; rw [hW.cell hb]; exact hc k _ (by simp [hlt])
        clear hc
        have hcell := HC.out _ K
        go_wp2_with (first
          | (go_at_call 33; refine (madd_in (l := [sumTo zs k]) M 0 (o := sumTo zs k) _ (by rfl) (by omega)).mono ?_; rintro e w' ⟨rfl, hu, M⟩; have K := K.upd2 hu hg1 hb1; have hcell := HC.out _ K))
        go_roundw
        case rel => exact ⟨k + 1, _, by omega, by go_num, by rw [sumTo_succ zs hlt], by rw [sumTo_succ zs hlt, Int.natCast_succ]; exact M, K⟩
        case measure => simp [intOf]; omega
      · obtain rfl : k = zs.length := by omega
        go_wp2_with (first
          | (go_at_call 34; refine (mpeek_in M 0 (o := sumTo zs zs.length) (by rfl)).mono ?_; rintro e w' ⟨rfl, rfl⟩)
          | (go_at_call 35; refine (mcount M).mono ?_; rintro e w' ⟨rfl, rfl⟩))
        go_ret
        exact ⟨rfl, by (repeat' (first | (with_reducible exact Keeps.refl _) | (with_reducible assumption) | (with_reducible refine Keeps.drewN ?_ _) | (with_reducible refine Keeps.drew ?_) | (with_reducible refine Keeps.alloc ?_ _) | (with_reducible refine Keeps.setCell ?_ ?_ _) | (with_reducible refine Keeps.trans ?_ (After.keeps _)) | (with_reducible refine Keeps.trans ?_ (by with_reducible assumption)) | go_size))⟩

theorem cellsWins_c (u : Int) (v : Value) (zs : List Int) (w : World) (hr : Reads .u64 w v zs) : Calls Try.prog 8 #[.int .u64 u, v] w fun e w' => e = .returned (.bool true) ∧ Keeps w w' := by
  obtain ⟨a, cap, rfl, hr⟩ := hr
  have HR := Lib.hid hr
  clear hr
  by_cases hl : 60 < zs.length
  · go_enter Try.func8, Try.ntmps8
    go_wp2_with (first
      | (go_at_call 31; refine (cfirst_c _).mono ?_; rintro e w' ⟨rfl, K⟩)
      | (go_at_call 32; refine (mnew 1 _ (by omega) (by omega)).mono ?_; rintro e w' ⟨g, b, rfl, hk, hg1, hb1, M⟩; have K := K.trans hk))
    go_ret
    exact ⟨rfl, by (repeat' (first | (with_reducible exact Keeps.refl _) | (with_reducible assumption) | (with_reducible refine Keeps.drewN ?_ _) | (with_reducible refine Keeps.drew ?_) | (with_reducible refine Keeps.alloc ?_ _) | (with_reducible refine Keeps.setCell ?_ ?_ _) | (with_reducible refine Keeps.trans ?_ (After.keeps _)) | (with_reducible refine Keeps.trans ?_ (by with_reducible assumption)) | go_size))⟩
  · go_enter Try.func8, Try.ntmps8
    go_wp2_with (first
      | (go_at_call 31; refine (cfirst_c _).mono ?_; rintro e w' ⟨rfl, K⟩)
      | (go_at_call 32; refine (mnew 1 _ (by omega) (by omega)).mono ?_; rintro e w' ⟨g, b, rfl, hk, hg1, hb1, M⟩; have hg1 := Nat.le_trans K.size hg1; have hb1 := Nat.le_trans K.size hb1; have K := K.trans hk; have M : Mem _ g b 1 [0] 0 _ := M)
      | (go_at_call 49; refine (mstore_in (l := [0]) M 0 (o := 0) _ (by rfl) (by omega)).mono ?_; rintro e w' ⟨rfl, hu, M⟩; have K := K.upd2 hu hg1 hb1; have M : Mem _ g b 1 [u] 1 _ := M))
    go_loopw [8, 9, 10] (fun s y i wr => ∃ (k : Nat) (x : Acc) (c q : Int), k ≤ zs.length ∧ i = .int .i64 k ∧ y = .int .u64 q ∧ Mem wr g b 1 [q] c x ∧ Keeps w wr ∧ c ≤ k + 1 ∧ (s = .int .i64 0 ∧ Hid (q = u) ∨ s = .int .i64 1 ∧ Hid ((q != u) = true))) (fun _ _ i _ => zs.length - (intOf i).toNat)
    case atStart => exact ⟨0, _, 1, u, by omega, rfl, rfl, M, K, by omega, .inl ⟨rfl, Lib.hid rfl⟩⟩
    case round =>
      clear K M hk
      obtain ⟨k, x, c, q, hk, rfl, rfl, M, K, hcb, hs⟩ := hrel
      by_cases hlt : k < zs.length
      · obtain ⟨bb, off, rfl, hb, hc⟩ := HR.out (by rintro rfl; simp at hlt)
        have HC : Hid (∀ W, Keeps w W → W.cell? ⟨bb, off + k, none⟩ = some (.int .u64 (zs.getD k 0))) := by
          show ∀ W, Keeps w W → W.cell? ⟨bb, off + k, none⟩ = some (.int .u64 (zs.getD k 0))
          intro W hW; rw [hW.cell hb]; exact hc k _ (by simp [hlt])
        clear hc
        have hcell := HC.out _ K
        rcases hs with ⟨rfl, hq⟩ | ⟨rfl, hq⟩
        · obtain rfl : u = q := hq.out.symm
          go_wp2_with (first
            | (go_at_call 50; refine (mcas_eq (l := [u]) M 0 (o := u) _ (by rfl) (by omega)).mono ?_; rintro e w' ⟨rfl, hu, M⟩; have K := K.upd2 hu hg1 hb1; have hcell := HC.out _ K))
          · go_roundw
            case rel => exact ⟨k + 1, _, c, u, by omega, by go_num, rfl, M, K, by omega, .inl ⟨rfl, hq⟩⟩
            case measure => simp [intOf]; omega
          · go_roundw
            case rel => exact ⟨k + 1, _, c + 1, zs[k], by omega, by go_num, rfl, M, K, by omega, .inr ⟨rfl, Lib.hid (by rw [bne, (by assumption : (zs[k] == u) = false)]; rfl)⟩⟩
            case measure => simp [intOf]; omega
        · go_wp2_with (first
            | (go_at_call 50; refine (mcas_ne (l := [q]) M 0 (o := q) u _ (by rfl) (by omega) hq.out).mono ?_; rintro e w' ⟨rfl, hu, M⟩; have K := K.upd2 hu hg1 hb1; have hcell := HC.out _ K))
          · go_roundw
            case rel => exact ⟨k + 1, _, c, q, by omega, by go_num, rfl, M, K, by omega, .inr ⟨rfl, hq⟩⟩
            case measure => simp [intOf]; omega
          · go_roundw
            case rel => exact ⟨k + 1, _, c + 1, _, by omega, by go_num, rfl, M, K, by omega, .inr ⟨rfl, hq⟩⟩
            case measure => simp [intOf]; omega
      · obtain rfl : k = zs.length := by omega
        go_wp2_with (first
          | (go_at_call 34; refine (mpeek_in M 0 (o := q) (by rfl)).mono ?_; rintro e w' ⟨rfl, rfl⟩))
        go_ret
        exact ⟨rfl, by (repeat' (first | (with_reducible exact Keeps.refl _) | (with_reducible assumption) | (with_reducible refine Keeps.drewN ?_ _) | (with_reducible refine Keeps.drew ?_) | (with_reducible refine Keeps.alloc ?_ _) | (with_reducible refine Keeps.setCell ?_ ?_ _) | (with_reducible refine Keeps.trans ?_ (After.keeps _)) | (with_reducible refine Keeps.trans ?_ (by with_reducible assumption)) | go_size))⟩

end Go.Proofs.Ythlojiefnclgkaa
