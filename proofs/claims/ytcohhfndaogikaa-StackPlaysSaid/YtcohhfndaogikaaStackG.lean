/- The chapter's example of stacks, walked. -/
import Derived.Test.YtcohhfndaogikaaStackF
import Derived.LoopTactic
namespace Go.Proofs.Ytcohhfndaogikaa
set_option linter.unusedVariables false
set_option linter.unusedSimpArgs false
open Go Go.RowKit
set_option maxRecDepth 100000
set_option maxHeartbeats 2000000

abbrev po0 (most : Int) : Po := ⟨0, 0, most, 0, 0, []⟩
theorem po0_inv (n : Nat) (most : Int) : PoInv n 0 (po0 most) := ⟨fun e => by simp at e, by simp, by simp, by simp, by simp, by simp, by simp⟩
theorem stackFirst_c (w : World) : Calls Try.prog 39 #[] w fun e w' => e = .returned (.bool true) ∧ Keeps w w' := by
  obtain ⟨l0, hl0⟩ : ∃ l0 : List Int, stFill 0 2 3 (List.replicate (3 + 2) 0) = l0 := ⟨_, rfl⟩
  have HZ := Lib.hid hl0
  have HL : Hid (StOk 0 2 3 5 l0) := Lib.hid (by subst hl0; exact ⟨by decide, by decide, by decide, by decide, by decide, by decide⟩)
  have HS3 : Hid (stList 0 2 3 l0 = [0, 1, 2]) := Lib.hid (by subst hl0; decide)
  have HDk : Hid (∀ k : Nat, k < 4 → decide ((poRun 0 2 3 k (l0, po0 2)).2.ph < 3) = true) := Lib.hid (by subst hl0; decide)
  have HF : Hid ((poRun 0 2 3 4 (l0, po0 2)).2.ph = 3 ∧ (poRun 0 2 3 4 (l0, po0 2)).2.c = 4 ∧ (poRun 0 2 3 4 (l0, po0 2)).2.got = [0, 1]) := Lib.hid (by subst hl0; decide)
  have HI := Lib.hid (po0_inv 3 2)
  clear hl0
  go_enter Try.func39, Try.ntmps39
  go_wp2_with (first
    | (go_at_call 42; refine (table_c 3 _ (by omega) (by omega)).mono ?_; rintro e w' ⟨m, b, S, rfl, hk, hm, hb, hSs, M, HS⟩; have K0 := hk; have nSm := hS_ne HS M)
    | (go_at_call 46; refine (fill_c HS M (by omega) (by omega) (by omega) (by omega)).mono ?_; rintro e w' ⟨rfl, hu, M⟩; rw [HZ.out] at M; have HS := HS.upd hu nSm; have K0 := K0.upd hu (ge_mb hm hb))
    | (go_at_call 37; refine (list_c HS M HL.out).mono ?_; rintro e w' ⟨v, rfl, hk2, R⟩; rw [HS3.out] at R; have K0 := K0.trans hk2; have M := M.keeps hk2; have HS := HS.keeps hk2; obtain ⟨lb, cap, cur, hv, hLb, hcur⟩ := R.formI (by simp); subst hv; have c0 := Has.cellv hLb (hcur 0 (by simp)); have c1 := Has.cellv hLb (hcur 1 (by simp)); have c2 := Has.cellv hLb (hcur 2 (by simp)); simp at c0 c1 c2)
    | (go_at_call 47; refine (mkPop_c (B := w.heap.size) _ 2 (by omega)).mono ?_; rintro e w' ⟨g, rfl, hk3, hgs, HA⟩; have c0 := (hk3.cell hLb.lt).trans c0; have c2 := (hk3.cell hLb.lt).trans c2; have hg2 := Nat.le_trans K0.size hgs; have K0 := K0.trans hk3; have M := M.keeps hk3; have HS := HS.keeps hk3))
  go_loopw [5] (fun i wr => ∃ (k : Nat) (v' : Value), k ≤ 4 ∧ i = .int .i64 k ∧ PoRep wr w.heap.size g S v' (poRun 0 2 3 k (l0, po0 2)).2 ∧ Has wr S (stackOf m (0 : Nat) (2 : Nat) (3 : Nat)) 138 ∧ (∃ x, Mem wr m b 5 (poRun 0 2 3 k (l0, po0 2)).1 (0 + (poRun 0 2 3 k (l0, po0 2)).2.c) x) ∧ Keeps w wr) (fun i _ => 4 - (intOf i).toNat)
  case atStart => exact ⟨0, _, by omega, rfl, HA, HS, ⟨_, M⟩, K0⟩
  case round =>
    obtain ⟨k, v', hk4, rfl, HA, HS, ⟨x, M⟩, K0⟩ := hrel
    by_cases hlt : (k : Int) < 4
    · have HO : Hid (decide ((poRun 0 2 3 k (l0, po0 2)).2.ph < 3) = true) := Lib.hid (HDk.out k (by omega))
      have szr := K0.size
      have hro := HA.row.own
      go_wp2_with (go_at_call 48; refine (poRunStep_c (cc0 := 0) true HO.out HA HS M HL.out HI.out (by omega) szr (by omega)).mono ?_; rintro e w' ⟨v2, rfl, hu, HA, HS, ⟨x2, M⟩, hv2⟩; have K0 := K0.upd hu (ge_po hg2 hm hb (fun y hy => (hro y hy).1)))
      go_roundw
      case rel => exact ⟨k + 1, _, by omega, by go_num, HA, HS, ⟨_, M⟩, K0⟩
      case measure => simp [intOf]; omega
    · obtain rfl : k = 4 := by omega
      obtain ⟨F1, F2, F3⟩ := HF.out
      generalize poRun 0 2 3 4 (l0, po0 2) = r at *
      obtain ⟨lz, ph, c, most, under, was, got⟩ := r
      dsimp only at F1 F2 F3 HA M
      subst F1 F2 F3
      go_wp2_with (first
        | (go_at_call 50; refine (got_c HA (Nat.le_refl _) (by simp)).mono ?_; rintro e w' ⟨vg, rfl, hk5, RG⟩; have K0 := K0.trans hk5; have HA := (PoRep.keeps HA hk5); have M := M.keeps hk5; obtain ⟨lg, capg, curg, hvg, hLg, hcurg⟩ := RG.formI (by simp); subst hvg; have d0 := Has.cellv hLg (hcurg 0 (by simp)); have d1 := Has.cellv hLg (hcurg 1 (by simp)); simp at d0 d1)
        | (go_at_call 49; refine (poDone_c HA).mono ?_; rintro e w' ⟨rfl, rfl⟩)
        | (go_at_call 23; refine (mcount M).mono ?_; rintro e w' ⟨rfl, rfl⟩))
      go_ret
      exact ⟨rfl, K0⟩
end Go.Proofs.Ytcohhfndaogikaa
