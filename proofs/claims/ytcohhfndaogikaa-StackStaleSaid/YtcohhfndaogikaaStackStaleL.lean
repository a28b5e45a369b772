/- The law StackStale, walked. -/
import Derived.Test.YtcohhfndaogikaaStackStaleP
namespace Go.Proofs.Ytcohhfndaogikaa
set_option linter.unusedVariables false
set_option linter.unusedSimpArgs false
open Go Go.RowKit
set_option maxRecDepth 100000
attribute [local go_sem ↓] Go.wp_at_zero Go.wp_at_succ
set_option maxHeartbeats 2000000

/-- What is on the stack behind i rounds of R. -/
def staleL (k R i : Nat) : List Int := if i ≤ R then baseL k else 0 :: (baseL k).drop 2
theorem baseL_cons (k : Nat) (h : 2 ≤ k) : baseL k = 0 :: 1 :: (baseL k).drop 2 := by
  have h0 := baseL_at (n := k) (i := 0) 0 (by omega)
  have h1 := baseL_at (n := k) (i := 1) 0 (by omega)
  have hl := baseL_len k
  match hb : baseL k with
  | [] => rw [hb] at hl; simp at hl; omega
  | [a] => rw [hb] at hl; simp at hl; omega
  | a :: c :: r =>
    rw [hb] at h0 h1
    simp at h0 h1
    simp [h0, h1]
theorem dropL_mem {k : Nat} {z : Int} (hk : 2 ≤ k) (h : z ∈ (baseL k).drop 2) : 2 ≤ z := by
  have hn := baseL_nodup k
  rw [baseL_cons k hk] at hn
  have hb := baseL_mem.1 (List.mem_of_mem_drop h)
  simp only [List.nodup_cons, List.mem_cons, not_or] at hn
  have h0 : z ≠ 0 := fun e => hn.1.2 (e ▸ h)
  have h1 : z ≠ 1 := fun e => hn.2.1 (e ▸ h)
  omega
/-- What stands while the first one waits. -/
structure StaleAt (w wr : World) (m b S g N k : Nat) (v : Value) (s : Po) (l : List Int) (c : Int) (x : Acc) : Prop where
  M : Mem wr m b N l c x
  HS : Has wr S (stackOf m (0 : Nat) (2 : Nat) k) 138
  HA : PoRep wr w.heap.size g S v s
  K0 : Keeps w wr
  hm : w.heap.size ≤ m
  hb : w.heap.size ≤ b
theorem StaleAt.step {w wr w1 w' : World} {m b S g N k : Nat} {v : Value} {s : Po} {l l' : List Int} {c c' : Int} {x x' : Acc} (h : StaleAt w wr m b S g N k v s l c x) (hk : Keeps wr w1) (hu : Upd [m, b] w1 w') (M' : Mem w' m b N l' c' x') : StaleAt w w' m b S g N k v s l' c' x' :=
  ⟨M', (h.HS.keeps hk).upd hu (hS_ne h.HS h.M), (h.HA.keeps hk).updmb hu (h.M.keeps hk), (h.K0.trans hk).upd hu (ge_mb h.hm h.hb), h.hm, h.hb⟩
theorem StaleAt.same {w wr w' : World} {m b S g N k : Nat} {v : Value} {s : Po} {l : List Int} {c : Int} {x : Acc} (h : StaleAt w wr m b S g N k v s l c x) (hk : Keeps wr w') : StaleAt w w' m b S g N k v s l c x := h.step hk (Upd.refl _ _) (h.M.keeps hk)
/-- The cells of a list of ints stand. -/
theorem ints_step {wr w1 w' : World} {m b lb N : Nat} {cur : Array Value} {l : List Int} {c : Int} {x : Acc} (h : Has wr lb cur 3) (M : Mem wr m b N l c x) (hk : Keeps wr w1) (hu : Upd [m, b] w1 w') : Has w' lb cur 3 :=
  (h.keeps hk).upd hu (by simp only [List.mem_cons, List.not_mem_nil, or_false, not_or]; exact ⟨h.ne M.hg (by decide), h.ne M.hb (by decide)⟩)
theorem stackStale_c (n rounds : Int) (w : World) :
    Calls Try.prog 10 #[.int .i64 n, .int .i64 rounds] w fun e w' => e = .returned (.bool true) ∧ Keeps w w' := by
  have hk0 := mod_bd n 6 (by omega)
  have hm0 := mod_bd rounds 5 (by omega)
  obtain ⟨kn, hkn⟩ := Int.eq_ofNat_of_zero_le hk0.1
  obtain ⟨R, hR⟩ := Int.eq_ofNat_of_zero_le hm0.1
  have hkn6 : kn < 6 := by omega
  have hR5 : R < 5 := by omega
  have HK := Lib.hid hkn
  have HRn := Lib.hid hR
  have hkI : Hid (3 + (kn : Int) = ((kn + 3 : Nat) : Int)) := Lib.hid (by omega)
  clear hk0 hm0 hkn hR
  obtain ⟨l0, hl0⟩ : ∃ l0 : List Int, stFill 0 2 (kn + 3) (List.replicate (kn + 3 + 2) 0) = l0 := ⟨_, rfl⟩
  have RS0 : StRep 0 2 (kn + 3) (kn + 3 + 2) l0 0 (baseL (kn + 3)) := hl0 ▸ StRep.fill (StOk.zero _ (by omega)) (.inl (by omega)) (by omega)
  have HZ := Lib.hid hl0
  clear hl0
  have HI := Lib.hid (po0_inv (kn + 3) 1)
  have P1 : poRun 0 2 (kn + 3) 2 (l0, po0 1) = (l0, ⟨2, 2, 1, 1, l0.getD 0 0, [0]⟩) := by
    rw [pop_seen RS0 (by rw [baseL_len]; omega), baseL_at _ (by omega), baseL_cons (kn + 3) (by omega)]; rfl
  have P0 := pop_links (most := 1) (c0 := 0) (u0 := 0) (w0 := 0) (g0 := []) RS0 (by rw [baseL_cons _ (by omega)]; simp) (by decide) 0 (by rw [baseL_len]; omega) (by decide)
  have HP := Lib.hid P1
  have HD0 : Hid (decide ((poRun 0 2 (kn + 3) 0 (l0, po0 1)).2.ph < 3) = true) := Lib.hid rfl
  have HD1 : Hid (decide ((poRun 0 2 (kn + 3) 1 (l0, po0 1)).2.ph < 3) = true) := Lib.hid (by obtain ⟨u, hu⟩ := P0; rw [show poRun 0 2 (kn + 3) 1 (l0, po0 1) = _ from hu]; rfl)
  clear P0 P1
  have HD2 : Hid (decide (3 ≤ (poRun 0 2 (kn + 3) 2 (l0, po0 1)).2.ph) = false) := Lib.hid (by rw [HP.out]; rfl)
  have tok : True := trivial
  go_enter Try.func10, Try.ntmps10
  go_wp2_with (first
    | (go_at_call 39; refine (stackFirst_c _).mono ?_; rintro e w' ⟨rfl, K0⟩)
    | (go_at_call 16; refine (number_c _ _ _ (by omega) (by omega)).mono ?_; rintro e w' ⟨rfl, rfl⟩; (first | rw [HK.out] | rw [HRn.out]))
    | (go_at_call 42; refine (table_i _ (kn + 3) hkI.out _ (by omega) (by omega)).mono ?_; rintro e w' ⟨m, b, S, rfl, hkk, hm, hb, hSs, M, HS⟩; have k0s := K0.size; have K0 := K0.trans hkk; have hm := Nat.le_trans k0s hm; have hb := Nat.le_trans k0s hb; have hSs := Nat.le_trans k0s hSs; have nSm := hS_ne HS M)
    | (go_at_call 46; refine (fill_c HS M (by omega) (by omega) (by omega) (by omega)).mono ?_; rintro e w' ⟨rfl, hu, M⟩; rw [HZ.out] at M; have HS := HS.upd hu nSm; have K0 := K0.upd hu (ge_mb hm hb))
    | (go_at_call 47; refine (mkPop_c (B := w.heap.size) _ 1 (by omega)).mono ?_; rintro e w' ⟨g, rfl, hk3, hgs, HA⟩; have hg2 := Nat.le_trans K0.size hgs; have K0 := K0.trans hk3; have M := M.keeps hk3; have HS := HS.keeps hk3; have szr := K0.size)
    | (go_at_call 48; have t_ := tok; clear t_ tok; refine (poRunStep_c (p := (l0, po0 1)) (k := 0) (cc0 := 0) (C := 0) true HD0.out HA HS M RS0.ok HI.out (by omega) szr (by omega)).mono ?_; rintro e w' ⟨v2, rfl, hu, HA, HS, ⟨x2, M⟩, hv2⟩; have K0 := K0.upd hu (ge_po hg2 hm hb (by simp)); have szr := K0.size; have hro := HA.row.own)
    | (go_at_call 48; refine (poRunStep_c (p := (l0, po0 1)) (k := 1) (cc0 := 0) (C := 0) true HD1.out HA HS M RS0.ok HI.out (by omega) szr (by omega)).mono ?_; rintro e w' ⟨v2, rfl, hu, HA, HS, ⟨x2, M⟩, hv2⟩; have K0 := K0.upd hu (ge_po hg2 hm hb (fun y hy => (hro y hy).1)))
    | (go_at_call 49; refine (poDone_c HA).mono ?_; rintro e w' ⟨rfl, rfl⟩; rw [HD2.out]))
  obtain ⟨D, hD⟩ : ∃ D, (baseL (kn + 3)).drop 2 = D := ⟨_, rfl⟩
  have eB : baseL (kn + 3) = 0 :: 1 :: D := by rw [baseL_cons _ (by omega), hD]
  have hDm : ∀ z ∈ D, 2 ≤ z := fun z hz => dropL_mem (k := kn + 3) (by omega) (hD ▸ hz)
  have hDl : D.length = kn + 1 := by rw [← hD, List.length_drop, baseL_len]; omega
  rw [eB] at RS0
  have HDM := Lib.hid hDm
  have HDL := Lib.hid hDl
  have HRS0 := Lib.hid RS0
  have hw0 : Hid (l0.getD 0 0 / 4294967296 = 0) := Lib.hid RS0.tag
  have hwb : Hid (0 ≤ l0.getD 0 0 ∧ l0.getD 0 0 < 18446744073709551616) := Lib.hid (RS0.ok.words _ (List.mem_of_getElem? (getD_some (by rw [RS0.ok.len]; omega))))
  have HA : PoRep _ w.heap.size g S v2 (poRun 0 2 (kn + 3) 2 (l0, po0 1)).2 := HA
  have M : Mem _ m b (kn + 3 + 2) (poRun 0 2 (kn + 3) 2 (l0, po0 1)).1 (0 + (poRun 0 2 (kn + 3) 2 (l0, po0 1)).2.c) x2 := M
  rw [HP.out] at HA M
  generalize l0.getD 0 0 = was0 at *
  have A0 : StaleAt w _ m b S g (kn + 3 + 2) (kn + 3) v2 ⟨2, 2, 1, 1, was0, [0]⟩ l0 (0 + 2) x2 := ⟨M, HS, HA, K0, hm, hb⟩
  clear HA M HS K0 RS0 hDm hDl eB hD hkk
  have AA := Lib.hid A0
  clear A0
  go_loopw [10] (fun iv wr => ∃ (i : Nat) (l : List Int) (T : Nat) (c : Int) (x : Acc), i ≤ R + 1 ∧ iv = .int .i64 i ∧ T ≤ 6 * i ∧ (1 ≤ i → 1 ≤ T) ∧ 0 ≤ c ∧ c ≤ 2 + 40 * i ∧ StRep 0 2 (kn + 3) (kn + 3 + 2) l T (if i ≤ R then 0 :: 1 :: D else 0 :: D) ∧ StaleAt w wr m b S g (kn + 3 + 2) (kn + 3) v2 ⟨2, 2, 1, 1, was0, [0]⟩ l c x) (fun iv _ => R + 1 - (intOf iv).toNat)
  case atStart => exact ⟨0, l0, 0, 0 + 2, x2, by omega, rfl, by omega, by omega, by omega, by omega, by rw [if_pos (by omega)]; exact HRS0.out, AA.out⟩
  case round =>
    clear HRS0 AA HP HD0 HD1 HD2
    obtain ⟨i, l, T, c, x, hi, rfl, hTi, hT1, hc0, hc1, RS, A⟩ := hrel
    have hi1 : Hid (((i : Int) + 1) = ((i + 1 : Nat) : Int)) := Lib.hid (by omega)
    by_cases hlt : i ≤ R
    · rw [if_pos hlt] at RS
      have hN0 : Hid (∀ z ∈ [(0 : Int)], z ∉ D) := Lib.hid (fun z hz h => by obtain rfl := List.mem_singleton.1 hz; have := HDM.out _ h; omega)
      have hN1 : Hid (∀ z ∈ [(1 : Int)], z ∉ (0 : Int) :: D) := Lib.hid (fun z hz h => by
        obtain rfl := List.mem_singleton.1 hz
        rcases List.mem_cons.1 h with h | h
        · omega
        · have := HDM.out _ h; omega)
      have hI0 : Hid (itemsB (kn + 3) [(0 : Int)]) := Lib.hid ⟨fun z hz => by obtain rfl := List.mem_singleton.1 hz; omega, by simp⟩
      have hI1 : Hid (itemsB (kn + 3) [(1 : Int)]) := Lib.hid ⟨fun z hz => by obtain rfl := List.mem_singleton.1 hz; omega, by simp⟩
      have ltI : (i : Int) ≤ (R : Int) := by omega
      by_cases hlt2 : i < R
      · have ltJ : (i : Int) < (R : Int) := by omega
        have t1 : True := trivial
        have t2 : True := trivial
        go_wp2_with (first
          | (go_at_call 16; refine (number_c _ _ _ (by omega) (by omega)).mono ?_; rintro e w' ⟨rfl, rfl⟩; rw [HRn.out])
          | (go_at_call 44; have t_ := t1; clear t_ t1; refine (takes_c 2 2 2 4 (by omega) (.inr (.inl ⟨by omega, by omega, rfl⟩)) A.HS A.M RS (by simp) (by simp) (by omega) (.inr (by omega)) (by omega) (by omega) (by omega)).mono ?_; rintro e w' ⟨v6, rfl, hu, -, ⟨l', x', M, RS⟩, R6⟩; have A := A.step (Keeps.refl _) hu M; have RS : StRep 0 2 (kn + 3) (kn + 3 + 2) l' (T + 1) D := RS; have R6 : Row _ 3 _ v6 (ivals [0, 1]) := R6; obtain ⟨lb, lcap, cur, hv6, hL, hcur⟩ := R6.formI (by simp); subst hv6; have c0 := Has.cellv hL (hcur 0 (by simp)); have c1 := Has.cellv hL (hcur 1 (by simp)); simp at c0 c1)
          | (go_at_call 43; have t_ := t2; clear t_ t2; refine (alone_c (zs := [0]) _ _ 3 (reads_one (Has.newAt (by simp)) _) (Nat.le_refl _) (A.HS.alloc _) (A.M.alloc _) RS hI0.out (by simp) hN0.out (by omega) (by simp) (by simp) (by omega) (by omega)).mono ?_; rintro e w' ⟨rfl, hu, -, l', x', M, RS⟩; have hL := ints_step hL A.M (by ((repeat' (first | (with_reducible exact Keeps.refl _) | (with_reducible assumption) | (with_reducible refine Keeps.drewN ?_ _) | (with_reducible refine Keeps.drew ?_) | (with_reducible refine Keeps.alloc ?_ _) | (with_reducible refine Keeps.setCell ?_ ?_ _) | (with_reducible refine Keeps.trans ?_ (After.keeps _)) | (with_reducible refine Keeps.trans ?_ (by with_reducible assumption)) | go_size)); (first | done | fail))) hu; have c0 := Has.cellv hL (hcur 0 (by simp)); have c1 := Has.cellv hL (hcur 1 (by simp)); simp at c0 c1; have A := A.step (by ((repeat' (first | (with_reducible exact Keeps.refl _) | (with_reducible assumption) | (with_reducible refine Keeps.drewN ?_ _) | (with_reducible refine Keeps.drew ?_) | (with_reducible refine Keeps.alloc ?_ _) | (with_reducible refine Keeps.setCell ?_ ?_ _) | (with_reducible refine Keeps.trans ?_ (After.keeps _)) | (with_reducible refine Keeps.trans ?_ (by with_reducible assumption)) | go_size)); (first | done | fail))) hu M)
          | (go_at_call 43; refine (alone_c (zs := [1]) _ _ 3 (reads_one (Has.newAt (by simp)) _) (Nat.le_refl _) (A.HS.alloc _) (A.M.alloc _) RS hI1.out (by simp) hN1.out (by omega) (by simp) (by simp) (by omega) (by omega)).mono ?_; rintro e w' ⟨rfl, hu, -, l', x', M, RS⟩; have A := A.step (by ((repeat' (first | (with_reducible exact Keeps.refl _) | (with_reducible assumption) | (with_reducible refine Keeps.drewN ?_ _) | (with_reducible refine Keeps.drew ?_) | (with_reducible refine Keeps.alloc ?_ _) | (with_reducible refine Keeps.setCell ?_ ?_ _) | (with_reducible refine Keeps.trans ?_ (After.keeps _)) | (with_reducible refine Keeps.trans ?_ (by with_reducible assumption)) | go_size)); (first | done | fail))) hu M)
          | (go_at_call 44; refine (takes_c 2 2 2 4 (by omega) (.inr (.inl ⟨by omega, by omega, rfl⟩)) A.HS A.M RS (by simp) (by simp) (by omega) (.inr (by omega)) (by omega) (by omega) (by omega)).mono ?_; rintro e w' ⟨v6, rfl, hu, -, ⟨l', x', M, RS⟩, R6⟩; have A := A.step (Keeps.refl _) hu M; have RS : StRep 0 2 (kn + 3) (kn + 3 + 2) l' (T + 1 + 1 + 1 + 1) D := RS; have R6 : Row _ 3 _ v6 (ivals [1, 0]) := R6; obtain ⟨lb, lcap, cur, hv6, hL, hcur⟩ := R6.formI (by simp); subst hv6; have c0 := Has.cellv hL (hcur 0 (by simp)); have c1 := Has.cellv hL (hcur 1 (by simp)); simp at c0 c1))
        have e0 := hcur 0 (by simp)
        have e1 := hcur 1 (by simp)
        simp at e0 e1
        clear hcur c0 c1
        have hN2 : Hid (∀ z ∈ [(0 : Int), 1], z ∉ D) := Lib.hid (fun z hz h => by
          have := HDM.out _ h
          simp only [List.mem_cons, List.not_mem_nil, or_false] at hz
          omega)
        have hI2 : Hid (itemsB (kn + 3) [(0 : Int), 1]) := Lib.hid ⟨fun z hz => by
          simp only [List.mem_cons, List.not_mem_nil, or_false] at hz
          omega, by simp⟩
        go_region_held3 (fun y => y.cell? ⟨lb, 1, none⟩ = some (.int .i64 0) ∧ y.cell? ⟨lb, 0, none⟩ = some (.int .i64 1)) (((repeat' (with_reducible apply And.intro)) <;> (apply Has.cellv; (focus ((repeat (first | (with_reducible assumption) | (with_reducible exact Has.new _ _ _) | (with_reducible exact Has.new1 _ _ _ _) | (with_reducible exact Has.new2 _ _ _ _ _) | (with_reducible refine Has.newAt ?_; (simp; done)) | (with_reducible apply Has.set) | (with_reducible apply Has.far; (case hn => first | assumption | (simp; done) | (intro e_; simp at e_; omega))) | (with_reducible apply Has.alloc) | (with_reducible apply Has.drewN) | (with_reducible apply Has.drew) | (with_reducible refine Has.keeps ?_ (by with_reducible assumption)))))); (first | (with_reducible assumption) | rfl | (simp; done) | fail))))
          ((go_at_call 43; refine (alone_c (zs := [0, 1]) _ _ 4 (reads_two (Has.drew (Has.newAt rfl)) _) (Nat.le_refl _) (A.HS.keeps (by ((repeat' (first | (with_reducible exact Keeps.refl _) | (with_reducible assumption) | (with_reducible refine Keeps.drewN ?_ _) | (with_reducible refine Keeps.drew ?_) | (with_reducible refine Keeps.alloc ?_ _) | (with_reducible refine Keeps.setCell ?_ ?_ _) | (with_reducible refine Keeps.trans ?_ (After.keeps _)) | (with_reducible refine Keeps.trans ?_ (by with_reducible assumption)) | go_size)); (first | done | fail)))) (A.M.keeps (by ((repeat' (first | (with_reducible exact Keeps.refl _) | (with_reducible assumption) | (with_reducible refine Keeps.drewN ?_ _) | (with_reducible refine Keeps.drew ?_) | (with_reducible refine Keeps.alloc ?_ _) | (with_reducible refine Keeps.setCell ?_ ?_ _) | (with_reducible refine Keeps.trans ?_ (After.keeps _)) | (with_reducible refine Keeps.trans ?_ (by with_reducible assumption)) | go_size)); (first | done | fail)))) RS hI2.out (by simp) hN2.out (by omega) (by simp) (by simp) (by omega) (by omega)).mono ?_; rintro e w' ⟨rfl, hu, -, l', x', M, RS⟩; have hL := ints_step hL A.M (by ((repeat' (first | (with_reducible exact Keeps.refl _) | (with_reducible assumption) | (with_reducible refine Keeps.drewN ?_ _) | (with_reducible refine Keeps.drew ?_) | (with_reducible refine Keeps.alloc ?_ _) | (with_reducible refine Keeps.setCell ?_ ?_ _) | (with_reducible refine Keeps.trans ?_ (After.keeps _)) | (with_reducible refine Keeps.trans ?_ (by with_reducible assumption)) | go_size)); (first | done | fail))) hu; have A := A.step (by ((repeat' (first | (with_reducible exact Keeps.refl _) | (with_reducible assumption) | (with_reducible refine Keeps.drewN ?_ _) | (with_reducible refine Keeps.drew ?_) | (with_reducible refine Keeps.alloc ?_ _) | (with_reducible refine Keeps.setCell ?_ ?_ _) | (with_reducible refine Keeps.trans ?_ (After.keeps _)) | (with_reducible refine Keeps.trans ?_ (by with_reducible assumption)) | go_size)); (first | done | fail))) hu M))
        go_wp2
        go_roundw
        case rel => exact ⟨i + 1, _, T + 1 + 1 + 1 + 1 + 1, _, _, by omega, by go_num, by omega, by omega, by omega, by omega, by rw [if_pos (by omega)]; exact RS, A⟩
        case measure => simp [intOf]; omega
      · have hnlt : ¬ (i : Int) < (R : Int) := by omega
        go_wp2_with (first
          | (go_at_call 16; refine (number_c _ _ _ (by omega) (by omega)).mono ?_; rintro e w' ⟨rfl, rfl⟩; rw [HRn.out])
          | (go_at_call 44; refine (takes_c 2 2 2 4 (by omega) (.inr (.inl ⟨by omega, by omega, rfl⟩)) A.HS A.M RS (by simp) (by simp) (by omega) (.inr (by omega)) (by omega) (by omega) (by omega)).mono ?_; rintro e w' ⟨v6, rfl, hu, -, ⟨l', x', M, RS⟩, R6⟩; have A := A.step (Keeps.refl _) hu M; have RS : StRep 0 2 (kn + 3) (kn + 3 + 2) l' (T + 1) D := RS; have R6 : Row _ 3 _ v6 (ivals [0, 1]) := R6; obtain ⟨lb, lcap, cur, hv6, hL, hcur⟩ := R6.formI (by simp); subst hv6; have c0 := Has.cellv hL (hcur 0 (by simp)); have c1 := Has.cellv hL (hcur 1 (by simp)); simp at c0 c1)
          | (go_at_call 43; refine (alone_c (zs := [0]) _ _ 3 (reads_one (Has.newAt (by simp)) _) (Nat.le_refl _) (A.HS.alloc _) (A.M.alloc _) RS hI0.out (by simp) hN0.out (by omega) (by simp) (by simp) (by omega) (by omega)).mono ?_; rintro e w' ⟨rfl, hu, -, l', x', M, RS⟩; have A := A.step (by ((repeat' (first | (with_reducible exact Keeps.refl _) | (with_reducible assumption) | (with_reducible refine Keeps.drewN ?_ _) | (with_reducible refine Keeps.drew ?_) | (with_reducible refine Keeps.alloc ?_ _) | (with_reducible refine Keeps.setCell ?_ ?_ _) | (with_reducible refine Keeps.trans ?_ (After.keeps _)) | (with_reducible refine Keeps.trans ?_ (by with_reducible assumption)) | go_size)); (first | done | fail))) hu M))
        go_roundw
        case rel => exact ⟨i + 1, _, T + 1 + 1, _, _, by omega, by go_num, by omega, by omega, by omega, by omega, by rw [if_neg (by omega)]; exact RS, A⟩
        case measure => simp [intOf]; omega
    · rw [if_neg hlt] at RS
      obtain rfl : i = R + 1 := by omega
      have hT1 := hT1 (by omega)
      have hne : ¬ l.getD 0 0 = was0 := fun e => by
        have h1 := RS.tag
        rw [e, hw0.out] at h1
        omega
      have Q0 : poRun 0 2 (kn + 3) 1 (l, ⟨2, 2, 1, 1, was0, [0]⟩) = (l, ⟨0, 3, 1, 1, was0, [0]⟩) := by
        show (poMem 0 l ⟨2, 2, 1, 1, was0, [0]⟩, poStep 0 2 (kn + 3) l ⟨2, 2, 1, 1, was0, [0]⟩) = _
        have g1 : poMem 0 l ⟨2, 2, 1, 1, was0, [0]⟩ = if l.getD 0 0 = was0 then l.set 0 (nextI was0 1) else l := rfl
        have g2 : poStep 0 2 (kn + 3) l ⟨2, 2, 1, 1, was0, [0]⟩ = ⟨if l.getD 0 0 = was0 then 3 else 0, 2 + 1, 1, 1, was0, [0]⟩ := rfl
        rw [g1, g2, if_neg hne, if_neg hne]
        rfl
      have I0 : PoInv (kn + 3) 2 ⟨2, 2, 1, 1, was0, [0]⟩ := ⟨fun e => by simp at e, fun z hz => by obtain rfl := List.mem_singleton.1 hz; omega, by simp, hwb.out.1, hwb.out.2, by simp, by simp⟩
      have I1 : PoInv (kn + 3) 3 ⟨0, 3, 1, 1, was0, [0]⟩ := ⟨fun e => by simp at e, fun z hz => by obtain rfl := List.mem_singleton.1 hz; omega, by simp, hwb.out.1, hwb.out.2, by simp, by simp⟩
      obtain ⟨-, l9, under, was, R3, RS9⟩ := pop_someG (most := 1) (c0 := 3) (u0 := 1) (w0 := was0) (g0 := [0]) RS (by simp) (by decide) 1 (by simp) (by decide) (.inr (by decide)) (by omega)
      have R20 : poRun 0 2 (kn + 3) 20 (l, ⟨0, 3, 1, 1, was0, [0]⟩) = (l9, ⟨3, 3 + (1 + 2), 1, under, was, [0]⟩) := by
        have := poRun_stay (K := 1 + 2) (p := (l, ⟨0, 3, 1, 1, was0, [0]⟩)) (hd := 0) (lk := 2) (n := kn + 3) (by rw [R3]) 17
        rw [show 20 = 1 + 2 + 17 from rfl, this, R3]
        rfl
      have HQ0 := Lib.hid Q0
      have HI0 := Lib.hid I0
      have HI1 := Lib.hid I1
      have HR20 := Lib.hid R20
      have RS9 : StRep 0 2 (kn + 3) (kn + 3 + 2) l9 (T + 1) D := RS9
      have HD2 : Hid (decide (3 ≤ (poRun 0 2 (kn + 3) 1 (l, ⟨2, 2, 1, 1, was0, [0]⟩)).2.ph) = false) := Lib.hid (by rw [Q0]; rfl)
      have HL9 : Hid (stList 0 2 (kn + 3) l9 = D) := Lib.hid RS9.list
      have HO9 := Lib.hid RS9.ok
      have HOl := Lib.hid RS.ok
      have hnl : ¬ ((R + 1 : Nat) : Int) ≤ (R : Int) := by omega
      clear hne Q0 I0 I1 R3 R20 RS9
      have szr := A.K0.size
      have hro := A.HA.row.own
      have MM : Mem wr m b (kn + 3 + 2) (poRun 0 2 (kn + 3) 0 (l, ⟨2, 2, 1, 1, was0, [0]⟩)).1 (c - 2 + (poRun 0 2 (kn + 3) 0 (l, ⟨2, 2, 1, 1, was0, [0]⟩)).2.c) x := by
        show Mem wr m b (kn + 3 + 2) l (c - 2 + 2) x
        rw [Int.sub_add_cancel]
        exact A.M
      go_wp2_with (first
        | (go_at_call 16; refine (number_c _ _ _ (by omega) (by omega)).mono ?_; rintro e w' ⟨rfl, rfl⟩; rw [HRn.out])
        | (go_at_call 48; refine (poRunStep_c (p := (l, ⟨2, 2, 1, 1, was0, [0]⟩)) (k := 0) (cc0 := c - 2) (C := 2) true rfl A.HA A.HS MM HOl.out HI0.out (by omega) szr (by omega)).mono ?_; rintro e w' ⟨v3, rfl, hu, HA, HS, ⟨x3, M⟩, hv3⟩; have K0 := A.K0.upd hu (ge_po hg2 A.hm A.hb (fun y hy => (hro y hy).1)))
        | (go_at_call 49; refine (poDone_c HA).mono ?_; rintro e w' ⟨rfl, rfl⟩; rw [HD2.out]))
      have HA : PoRep _ w.heap.size g S v3 (poRun 0 2 (kn + 3) 1 (l, ⟨2, 2, 1, 1, was0, [0]⟩)).2 := HA
      have M : Mem _ m b (kn + 3 + 2) (poRun 0 2 (kn + 3) 1 (l, ⟨2, 2, 1, 1, was0, [0]⟩)).1 (c - 2 + (poRun 0 2 (kn + 3) 1 (l, ⟨2, 2, 1, 1, was0, [0]⟩)).2.c) x3 := M
      rw [HQ0.out] at HA M
      have hm := A.hm
      have hb := A.hb
      clear MM A
      have GG := Lib.hid (And.intro HA (And.intro M (And.intro HS K0)))
      clear HA M HS K0
      go_loopw [15] (fun iv wr => ∃ (j : Nat) (v : Value), j ≤ 20 ∧ iv = .int .i64 j ∧ PoRep wr w.heap.size g S v (poRun 0 2 (kn + 3) j (l, ⟨0, 3, 1, 1, was0, [0]⟩)).2 ∧ Has wr S (stackOf m (0 : Nat) (2 : Nat) (kn + 3 : Nat)) 138 ∧ (∃ x, Mem wr m b (kn + 3 + 2) (poRun 0 2 (kn + 3) j (l, ⟨0, 3, 1, 1, was0, [0]⟩)).1 (c - 2 + (poRun 0 2 (kn + 3) j (l, ⟨0, 3, 1, 1, was0, [0]⟩)).2.c) x) ∧ Keeps w wr) (fun iv _ => 20 - (intOf iv).toNat)
      case atStart => exact ⟨0, v3, by omega, rfl, GG.out.1, GG.out.2.2.1, ⟨x3, GG.out.2.1⟩, GG.out.2.2.2⟩
      case round =>
        clear GG hu
        obtain ⟨j, v, hj, rfl, HA, HS, ⟨x, M⟩, K0⟩ := hrel
        have szr := K0.size
        have hro := HA.row.own
        by_cases hj2 : (j : Int) < 20
        · have hj3 : (j : Int) + 1 ≤ 20 := by omega
          go_wp2_with (go_at_call 48; refine (poRunStep_c (p := (l, ⟨0, 3, 1, 1, was0, [0]⟩)) (k := j) (cc0 := c - 2) (C := 3) _ rfl HA HS M HOl.out HI1.out (by omega) szr (by omega)).mono ?_; rintro e w' ⟨v4, rfl, hu, HA, HS, ⟨x3, M⟩, hv4⟩; have K0 := K0.upd hu (ge_po hg2 hm hb (fun y hy => (hro y hy).1)))
          go_roundw
          case rel => exact ⟨j + 1, _, by omega, by go_num, HA, HS, ⟨_, M⟩, K0⟩
          case measure => simp [intOf]; omega
        · obtain rfl : j = 20 := by omega
          rw [HR20.out] at HA M
          go_wp2_with (first
            | (go_at_call 50; refine (got_c HA (Nat.le_refl _) (by simp)).mono ?_; rintro e w' ⟨v6, rfl, hk6, R6⟩; have HS := HS.keeps hk6; have M := M.keeps hk6; have K0 := K0.trans hk6; obtain ⟨lb, lcap, cur, hv6, hL, hcur⟩ := R6.formI (by simp); subst hv6)
            | (go_at_call 37; refine (list_c HS M HO9.out).mono ?_; rintro e w' ⟨v7, rfl, hk7, R7⟩; rw [HL9.out] at R7; have hL := hL.keeps hk7; have K0 := K0.trans hk7; obtain ⟨a7, c7, hv7, -⟩ := R7.reads; subst hv7))
          have c0 := Has.cellv hL (hcur 0 (by simp))
          simp at c0
          have hD0 : Hid ((0 : Int) ∉ D) := Lib.hid (fun h => by have := HDM.out _ h; omega)
          have hD1 : Hid ((1 : Int) ∉ D) := Lib.hid (fun h => by have := HDM.out _ h; omega)
          have hl0 : ((D.length : Int) == 3 + (kn : Int) - 2) = true := by have := HDL.out; rw [beq_iff_eq]; omega
          have hlb : D.length ≤ 1000000 := by have := HDL.out; omega
          have pw : IntKind.i64.wrap (3 + (kn : Int) - 2) = 3 + (kn : Int) - 2 := wrapI_ok _ (by omega) (by omega)
          have nD0 := hD0.out
          have nD1 := hD1.out
          go_quiet ((go_at_call 51; exact Calls.quiet_of_same ((has_c _ D _ _ (R7.keeps (by ((repeat' (first | (with_reducible exact Keeps.refl _) | (with_reducible assumption) | (with_reducible refine Keeps.drewN ?_ _) | (with_reducible refine Keeps.drew ?_) | (with_reducible refine Keeps.alloc ?_ _) | (with_reducible refine Keeps.setCell ?_ ?_ _) | (with_reducible refine Keeps.trans ?_ (After.keeps _)) | (with_reducible refine Keeps.trans ?_ (by with_reducible assumption)) | go_size)); (first | done | fail)))).reads hlb).mono fun _ _ ⟨p, q⟩ => ⟨p, q.symm⟩)))
          go_wp2
          go_ret
          exact ⟨rfl, by ((repeat' (first | (with_reducible exact Keeps.refl _) | (with_reducible assumption) | (with_reducible refine Keeps.drewN ?_ _) | (with_reducible refine Keeps.drew ?_) | (with_reducible refine Keeps.alloc ?_ _) | (with_reducible refine Keeps.setCell ?_ ?_ _) | (with_reducible refine Keeps.trans ?_ (After.keeps _)) | (with_reducible refine Keeps.trans ?_ (by with_reducible assumption)) | go_size)); (first | done | fail))⟩
end Go.Proofs.Ytcohhfndaogikaa
