/- The law EpochBars, walked. -/
import Derived.Test.YtkpagkopfdblgaaEpochF
import Derived.LoopTactic
namespace Go.Proofs.Ytkpagkopfdblgaa
set_option linter.unusedVariables false
set_option linter.unusedSimpArgs false
open Go Go.RowKit
set_option maxRecDepth 100000
set_option maxHeartbeats 2000000

theorem hE_ne {w : World} {E m b N : Nat} {a p n : Int} {l : List Int} {cc : Int} {x : Acc} (hE : Has w E (epochOf m a p n) 144) (M : Mem w m b N l cc x) : E ∉ [m, b] := by
  simp only [List.mem_cons, List.not_mem_nil, or_false, not_or]
  exact ⟨hE.ne M.hg (by decide), hE.ne M.hb (by decide)⟩
theorem getv {v : Nat} (h : v < 5) (t : Int) : ((List.replicate (5 + 1) 0).set 0 t)[1 + v]? = some 0 := by
  rw [List.getElem?_set_ne (by omega)]
  exact List.getElem?_replicate_of_lt (by omega)
theorem barsInv (t q : Int) (v : Nat) (t0 : 1 ≤ t) (t1 : t ≤ 1000) (q0 : 0 ≤ q) (q1 : q ≤ t) (hv : v < 5) : AdInv 5 1000 (((List.replicate 6 0).set 0 t).set (1 + v) (2 * q + 1)) ad0 := by
  refine ⟨by simp, by omega, by omega, ?_, ?_, by decide, by decide, by decide, by decide, by decide, by decide⟩
  · intro z hz
    rcases List.mem_or_eq_of_mem_set hz with hz | rfl
    · rcases List.mem_or_eq_of_mem_set hz with hz | rfl
      · have := List.eq_of_mem_replicate hz; omega
      · omega
    · omega
  · rw [List.getD_eq_getElem?_getD, List.getElem?_set_ne (by omega), List.getElem?_set_self (by simp)]
    simpa using t1
/-- The law, the numbers given: t the epoch, q what is announced, v who. -/
theorem epochBars_core (now back who t d q : Int) (v : Nat) (w : World) (ht : now % 1000 + 1 = t) (hd : back % 3 = d) (hv : who % 5 = v) (hv5 : v < 5) (t0 : 1 ≤ t) (t1 : t ≤ 1000) (d0 : 0 ≤ d) (d1 : d ≤ 2) (hq : (t - d < 0 ∧ q = 0) ∨ (0 ≤ t - d ∧ q = t - d)) :
    Calls Try.prog 7 #[.int .i64 now, .int .i64 back, .int .i64 who] w fun e w' => e = .returned (.bool true) ∧ Keeps w w' := by
  have q0 : 0 ≤ q := by omega
  have q1 : q ≤ t := by omega
  have HI := Lib.hid (barsInv t q v t0 t1 q0 q1 hv5)
  have HP := Lib.hid (bars_plain t q v t0 t1 q0 q1 hv5)
  have HT : Hid (now % 1000 = t - 1) := Lib.hid (by omega)
  have HD := Lib.hid hd
  have HV := Lib.hid hv
  have hv5' : (v : Int) < 5 := by omega
  have hv0 : 0 ≤ (v : Int) := by omega
  obtain ⟨l0, hl0⟩ : ∃ l0 : List Int, ((List.replicate 6 0).set 0 t).set (1 + v) (2 * q + 1) = l0 := ⟨_, rfl⟩
  have HL := Lib.hid hl0
  rw [hl0] at HI HP
  clear ht hd hv hl0
  have e1 : (1 : Int) + (t - 1) = t := by omega
  have qb : q ≤ 4611686018427387903 := by omega
  have t0_ : True := trivial
  have t1_ : True := trivial
  rcases (show (t - d < 0 ∧ q = 0) ∨ (0 ≤ t - d ∧ q = t - d ∧ d ≠ 0) ∨ (d = 0 ∧ q = t) by omega) with ⟨h1, rfl⟩ | ⟨h1, rfl, h2⟩ | ⟨rfl, rfl⟩
  · rw [show (2 * (0 : Int) + 1) = 1 from rfl] at HL
    have z1 : ((0 : Int) == t) = false := by simp; omega
    have z2 : (t == t + 1) = false := by simp; omega
    have z3 : (2 + (v : Int) == 2 + (v : Int)) = true := by simp
    go_enter Try.func7, Try.ntmps7
    go_wp2_with (first
      | (go_at_call 46; refine (epochFirst_c _).mono ?_; rintro e w' ⟨rfl, hk0⟩)
      | (go_at_call 15; refine (number_c _ _ _ (by omega) (by omega)).mono ?_; rintro e w' ⟨rfl, rfl⟩; first | rw [HT.out] | rw [HD.out] | rw [HV.out])
      | (go_at_call 47; refine (epochMade_c 5 _ (by omega) (by omega)).mono ?_; rintro e w' ⟨m, b, E, rfl, hk, hm, hb, hEs, M, HE⟩; have K0 := hk0.trans hk; have k0s := hk0.size; have hm := Nat.le_trans k0s hm; have hb := Nat.le_trans k0s hb; have hEs := Nat.le_trans k0s hEs; have nEm := hE_ne HE M)
      | (go_at_call 21; refine (putPin_ok _ _ q0 qb).mono ?_; rintro e w' ⟨rfl, k_pin, rfl⟩; have M := M.drewN k_pin; have HE := HE.drewN k_pin; have K0 := K0.drewN k_pin)
      | (go_at_call 44; have t_ := t0_; clear t_ t0_; refine (mlay_at M 0 (o := 0) _ _ (by rfl) (by rfl)).mono ?_; rintro e w' ⟨rfl, hu, M⟩; have HE := HE.upd hu nEm; have K0 := K0.upd hu (by simp; exact ⟨hm, hb⟩))
      | (go_at_call 44; have t_ := t1_; clear t_ t1_; refine (mlay_at M (1 + v) (o := 0) _ _ (by omega) (getv hv5 t)).mono ?_; rintro e w' ⟨rfl, hu, M⟩; have HE := HE.upd hu nEm; have K0 := K0.upd hu (by simp; exact ⟨hm, hb⟩); rw [HL.out] at M)
      | (go_at_call 48; refine (adNew_c HE).mono ?_; rintro e w' ⟨g, rfl, hk2, hgs, HA⟩; have M := M.keeps hk2; have HE := HE.keeps hk2; have hg2 := Nat.le_trans K0.size hgs; have K0 := K0.trans hk2; clear hk2))
    go_loopw [16] (fun i wr => ∃ k : Nat, k ≤ 10 ∧ i = .int .i64 k ∧ AdRep wr g E (adRun 5 k (l0, ad0)).2 ∧ Has wr E (epochOf m 0 1 5) 144 ∧ (∃ x, Mem wr m b 6 (adRun 5 k (l0, ad0)).1 (adRun 5 k (l0, ad0)).2.c x) ∧ Keeps w wr) (fun i _ => 10 - (intOf i).toNat)
    case atStart => exact ⟨0, by omega, rfl, HA, HE, ⟨_, M⟩, K0⟩
    case round =>
      obtain ⟨k, hk10, rfl, HA, HE, ⟨x, M⟩, K0⟩ := hrel
      by_cases hk9 : (k : Int) < 10
      · obtain ⟨o, ho⟩ : ∃ o, decide ((adRun 5 k (l0, ad0)).2.ph < 3) = o := ⟨_, rfl⟩
        have HO := Lib.hid ho
        clear ho
        go_wp2_with (go_at_call 49; refine (adRunStep_c o HO.out HA HE M HI.out (by omega)).mono ?_; rintro e w' ⟨rfl, hu, HA, HE, x1, M⟩; have K0 := K0.upd hu (by simp; exact ⟨hg2, hm, hb⟩))
        go_roundw
        case rel => exact ⟨k + 1, by omega, by go_num, HA, HE, ⟨_, M⟩, K0⟩
        case measure => simp [intOf]; omega
      · obtain rfl : k = 10 := by omega
        obtain ⟨P1, P2, P3, P4⟩ := HP.out
        generalize adRun 5 10 (l0, ad0) = r at *
        obtain ⟨lz, ph, c, was, wk, won⟩ := r
        dsimp only at P1 P2 P3 P4 HA M
        subst P1
        rw [decide_eq_false (show ¬ 0 = t by omega)] at P2
        rw [if_neg (show ¬ 0 = t by omega)] at P3 P4
        have HC : Hid (cutI t = t) := Lib.hid (by unfold cutI; rw [if_pos (by omega)])
        have hlen : lz.length = 6 := M.len
        have hget := getD_some (l := lz) (i := 0) (by omega)
        rw [P4] at hget
        have HG := Lib.hid hget
        subst P2 P3
        clear P4 hget
        go_wp2_with (first
          | (go_at_call 50; refine (adDone_c HA).mono ?_; rintro e w' ⟨rfl, rfl⟩)
          | (go_at_call 51; refine (adWon_c HA).mono ?_; rintro e w' ⟨rfl, rfl⟩)
          | (go_at_call 52; refine (now_c (a := 0) HE M HG.out (by omega)).mono ?_; rintro e w' ⟨rfl, hk3⟩; have M := M.keeps hk3; have K0 := K0.trans hk3; rw [HC.out])
          | (go_at_call 45; refine (mcount M).mono ?_; rintro e w' ⟨rfl, rfl⟩))
        go_ret
        exact ⟨rfl, K0⟩
  · have z1 : (t - d == t) = false := by simp; omega
    have z2 : (t == t + 1) = false := by simp; omega
    go_enter Try.func7, Try.ntmps7
    go_wp2_with (first
      | (go_at_call 46; refine (epochFirst_c _).mono ?_; rintro e w' ⟨rfl, hk0⟩)
      | (go_at_call 15; refine (number_c _ _ _ (by omega) (by omega)).mono ?_; rintro e w' ⟨rfl, rfl⟩; first | rw [HT.out] | rw [HD.out] | rw [HV.out])
      | (go_at_call 47; refine (epochMade_c 5 _ (by omega) (by omega)).mono ?_; rintro e w' ⟨m, b, E, rfl, hk, hm, hb, hEs, M, HE⟩; have K0 := hk0.trans hk; have k0s := hk0.size; have hm := Nat.le_trans k0s hm; have hb := Nat.le_trans k0s hb; have hEs := Nat.le_trans k0s hEs; have nEm := hE_ne HE M)
      | (go_at_call 21; refine (putPin_ok _ _ q0 qb).mono ?_; rintro e w' ⟨rfl, k_pin, rfl⟩; have M := M.drewN k_pin; have HE := HE.drewN k_pin; have K0 := K0.drewN k_pin)
      | (go_at_call 44; have t_ := t0_; clear t_ t0_; refine (mlay_at M 0 (o := 0) _ _ (by rfl) (by rfl)).mono ?_; rintro e w' ⟨rfl, hu, M⟩; have HE := HE.upd hu nEm; have K0 := K0.upd hu (by simp; exact ⟨hm, hb⟩))
      | (go_at_call 44; have t_ := t1_; clear t_ t1_; refine (mlay_at M (1 + v) (o := 0) _ _ (by omega) (getv hv5 t)).mono ?_; rintro e w' ⟨rfl, hu, M⟩; have HE := HE.upd hu nEm; have K0 := K0.upd hu (by simp; exact ⟨hm, hb⟩); rw [HL.out] at M)
      | (go_at_call 48; refine (adNew_c HE).mono ?_; rintro e w' ⟨g, rfl, hk2, hgs, HA⟩; have M := M.keeps hk2; have HE := HE.keeps hk2; have hg2 := Nat.le_trans K0.size hgs; have K0 := K0.trans hk2; clear hk2))
    go_loopw [16] (fun i wr => ∃ k : Nat, k ≤ 10 ∧ i = .int .i64 k ∧ AdRep wr g E (adRun 5 k (l0, ad0)).2 ∧ Has wr E (epochOf m 0 1 5) 144 ∧ (∃ x, Mem wr m b 6 (adRun 5 k (l0, ad0)).1 (adRun 5 k (l0, ad0)).2.c x) ∧ Keeps w wr) (fun i _ => 10 - (intOf i).toNat)
    case atStart => exact ⟨0, by omega, rfl, HA, HE, ⟨_, M⟩, K0⟩
    case round =>
      obtain ⟨k, hk10, rfl, HA, HE, ⟨x, M⟩, K0⟩ := hrel
      by_cases hk9 : (k : Int) < 10
      · obtain ⟨o, ho⟩ : ∃ o, decide ((adRun 5 k (l0, ad0)).2.ph < 3) = o := ⟨_, rfl⟩
        have HO := Lib.hid ho
        clear ho
        go_wp2_with (go_at_call 49; refine (adRunStep_c o HO.out HA HE M HI.out (by omega)).mono ?_; rintro e w' ⟨rfl, hu, HA, HE, x1, M⟩; have K0 := K0.upd hu (by simp; exact ⟨hg2, hm, hb⟩))
        go_roundw
        case rel => exact ⟨k + 1, by omega, by go_num, HA, HE, ⟨_, M⟩, K0⟩
        case measure => simp [intOf]; omega
      · obtain rfl : k = 10 := by omega
        obtain ⟨P1, P2, P3, P4⟩ := HP.out
        generalize adRun 5 10 (l0, ad0) = r at *
        obtain ⟨lz, ph, c, was, wk, won⟩ := r
        dsimp only at P1 P2 P3 P4 HA M
        subst P1
        rw [decide_eq_false (show ¬ t - d = t by omega)] at P2
        rw [if_neg (show ¬ t - d = t by omega)] at P3 P4
        have HC : Hid (cutI t = t) := Lib.hid (by unfold cutI; rw [if_pos (by omega)])
        have hlen : lz.length = 6 := M.len
        have hget := getD_some (l := lz) (i := 0) (by omega)
        rw [P4] at hget
        have HG := Lib.hid hget
        subst P2 P3
        clear P4 hget
        go_wp2_with (first
          | (go_at_call 50; refine (adDone_c HA).mono ?_; rintro e w' ⟨rfl, rfl⟩)
          | (go_at_call 51; refine (adWon_c HA).mono ?_; rintro e w' ⟨rfl, rfl⟩)
          | (go_at_call 52; refine (now_c (a := 0) HE M HG.out (by omega)).mono ?_; rintro e w' ⟨rfl, hk3⟩; have M := M.keeps hk3; have K0 := K0.trans hk3; rw [HC.out])
          | (go_at_call 45; refine (mcount M).mono ?_; rintro e w' ⟨rfl, rfl⟩))
        go_ret
        exact ⟨rfl, K0⟩
  · have z1 : (q == q) = true := by simp
    have z2 : (q + 1 == q + 1) = true := by simp
    have h1 : 0 ≤ q := q0
    go_enter Try.func7, Try.ntmps7
    go_wp2_with (first
      | (go_at_call 46; refine (epochFirst_c _).mono ?_; rintro e w' ⟨rfl, hk0⟩)
      | (go_at_call 15; refine (number_c _ _ _ (by omega) (by omega)).mono ?_; rintro e w' ⟨rfl, rfl⟩; first | rw [HT.out] | rw [HD.out] | rw [HV.out])
      | (go_at_call 47; refine (epochMade_c 5 _ (by omega) (by omega)).mono ?_; rintro e w' ⟨m, b, E, rfl, hk, hm, hb, hEs, M, HE⟩; have K0 := hk0.trans hk; have k0s := hk0.size; have hm := Nat.le_trans k0s hm; have hb := Nat.le_trans k0s hb; have hEs := Nat.le_trans k0s hEs; have nEm := hE_ne HE M)
      | (go_at_call 21; refine (putPin_ok _ _ q0 qb).mono ?_; rintro e w' ⟨rfl, k_pin, rfl⟩; have M := M.drewN k_pin; have HE := HE.drewN k_pin; have K0 := K0.drewN k_pin)
      | (go_at_call 44; have t_ := t0_; clear t_ t0_; refine (mlay_at M 0 (o := 0) _ _ (by rfl) (by rfl)).mono ?_; rintro e w' ⟨rfl, hu, M⟩; have HE := HE.upd hu nEm; have K0 := K0.upd hu (by simp; exact ⟨hm, hb⟩))
      | (go_at_call 44; have t_ := t1_; clear t_ t1_; refine (mlay_at M (1 + v) (o := 0) _ _ (by omega) (getv hv5 q)).mono ?_; rintro e w' ⟨rfl, hu, M⟩; have HE := HE.upd hu nEm; have K0 := K0.upd hu (by simp; exact ⟨hm, hb⟩); rw [HL.out] at M)
      | (go_at_call 48; refine (adNew_c HE).mono ?_; rintro e w' ⟨g, rfl, hk2, hgs, HA⟩; have M := M.keeps hk2; have HE := HE.keeps hk2; have hg2 := Nat.le_trans K0.size hgs; have K0 := K0.trans hk2; clear hk2))
    go_loopw [16] (fun i wr => ∃ k : Nat, k ≤ 10 ∧ i = .int .i64 k ∧ AdRep wr g E (adRun 5 k (l0, ad0)).2 ∧ Has wr E (epochOf m 0 1 5) 144 ∧ (∃ x, Mem wr m b 6 (adRun 5 k (l0, ad0)).1 (adRun 5 k (l0, ad0)).2.c x) ∧ Keeps w wr) (fun i _ => 10 - (intOf i).toNat)
    case atStart => exact ⟨0, by omega, rfl, HA, HE, ⟨_, M⟩, K0⟩
    case round =>
      obtain ⟨k, hk10, rfl, HA, HE, ⟨x, M⟩, K0⟩ := hrel
      by_cases hk9 : (k : Int) < 10
      · obtain ⟨o, ho⟩ : ∃ o, decide ((adRun 5 k (l0, ad0)).2.ph < 3) = o := ⟨_, rfl⟩
        have HO := Lib.hid ho
        clear ho
        go_wp2_with (go_at_call 49; refine (adRunStep_c o HO.out HA HE M HI.out (by omega)).mono ?_; rintro e w' ⟨rfl, hu, HA, HE, x1, M⟩; have K0 := K0.upd hu (by simp; exact ⟨hg2, hm, hb⟩))
        go_roundw
        case rel => exact ⟨k + 1, by omega, by go_num, HA, HE, ⟨_, M⟩, K0⟩
        case measure => simp [intOf]; omega
      · obtain rfl : k = 10 := by omega
        obtain ⟨P1, P2, P3, P4⟩ := HP.out
        generalize adRun 5 10 (l0, ad0) = r at *
        obtain ⟨lz, ph, c, was, wk, won⟩ := r
        dsimp only at P1 P2 P3 P4 HA M
        subst P1
        simp only [decide_true, if_true] at P2 P3 P4
        have HC : Hid (cutI (q + 1) = q + 1) := Lib.hid (by unfold cutI; rw [if_pos (by omega)])
        have hlen : lz.length = 6 := M.len
        have hget := getD_some (l := lz) (i := 0) (by omega)
        rw [P4] at hget
        have HG := Lib.hid hget
        subst P2 P3
        clear P4 hget
        go_wp2_with (first
          | (go_at_call 50; refine (adDone_c HA).mono ?_; rintro e w' ⟨rfl, rfl⟩)
          | (go_at_call 51; refine (adWon_c HA).mono ?_; rintro e w' ⟨rfl, rfl⟩)
          | (go_at_call 52; refine (now_c (a := 0) HE M HG.out (by omega)).mono ?_; rintro e w' ⟨rfl, hk3⟩; have M := M.keeps hk3; have K0 := K0.trans hk3; rw [HC.out])
          | (go_at_call 45; refine (mcount M).mono ?_; rintro e w' ⟨rfl, rfl⟩))
        go_ret
        exact ⟨rfl, K0⟩
theorem epochBars_c (now back who : Int) (w : World) : Calls Try.prog 7 #[.int .i64 now, .int .i64 back, .int .i64 who] w fun e w' => e = .returned (.bool true) ∧ Keeps w w' := by
  have b1 := mod_bd now 1000 (by omega)
  have b2 := mod_bd back 3 (by omega)
  have b3 := mod_bd who 5 (by omega)
  obtain ⟨v, hv⟩ := Int.eq_ofNat_of_zero_le b3.1
  have hc : ∃ q, (now % 1000 + 1 - back % 3 < 0 ∧ q = 0) ∨ (0 ≤ now % 1000 + 1 - back % 3 ∧ q = now % 1000 + 1 - back % 3) := by
    by_cases h : now % 1000 + 1 - back % 3 < 0
    · exact ⟨0, .inl ⟨h, rfl⟩⟩
    · exact ⟨_, .inr ⟨by omega, rfl⟩⟩
  obtain ⟨q, hq⟩ := hc
  exact epochBars_core now back who _ _ q v w rfl rfl hv (by omega) (by omega) (by omega) (by omega) (by omega) hq
end Go.Proofs.Ytkpagkopfdblgaa
