/- The law StackOrder, walked. -/
import Derived.Test.YtcohhfndaogikaaStackAl
import Derived.Test.YtcohhfndaogikaaSame
import Derived.Test.YtcohhfndaogikaaAppI
import Derived.LoopTactic
namespace Go.Proofs.Ytcohhfndaogikaa
set_option linter.unusedVariables false
set_option linter.unusedSimpArgs false
open Go Go.RowKit
set_option maxRecDepth 100000
set_option maxHeartbeats 2000000

theorem table_i (a : Int) (n : Nat) (ha : a = n) (w : World) (h0 : 1 ≤ n) (h1 : n ≤ 4096) :
    Calls Try.prog 42 #[.int .i64 a] w fun e w' => ∃ m b S : Nat, e = .returned (.tuple #[.pointer (some ⟨m, 0, none⟩), .pointer (some ⟨S, 0, none⟩)]) ∧ Keeps w w' ∧ w.heap.size ≤ m ∧ w.heap.size ≤ b ∧ w.heap.size ≤ S ∧
      Mem w' m b (n + 2) (List.replicate (n + 2) 0) 0 ⟨0, 0, 0, 0, false⟩ ∧ Has w' S (stackOf m (0 : Nat) (2 : Nat) n) 138 := by subst ha; exact table_c n w h0 h1
theorem stRep_zero (n : Nat) (h : n ≤ 4096) : StRep 0 2 n (n + 2) (List.replicate (n + 2) 0) 0 [] :=
  ⟨StOk.zero n h, .inl (by omega), by simp [List.replicate_succ], by simp [List.replicate_succ], by simp [List.replicate_succ, Lnk, topI], by simp⟩
theorem stackOrder_c (n most : Int) (v : Value) (zs : List Int) (w : World) (hr : Reads .i64 w v zs) :
    Calls Try.prog 8 #[.int .i64 n, .int .i64 most, v] w fun e w' => e = .returned (.bool true) ∧ Keeps w w' := by
  obtain ⟨sa, cap, rfl, hrr⟩ := hr
  have HR := Lib.hid hrr
  have hk0 := mod_bd n 12 (by omega)
  have hm0 := mod_bd most 8 (by omega)
  obtain ⟨kn, hkn⟩ := Int.eq_ofNat_of_zero_le hk0.1
  obtain ⟨qn, hqn⟩ : ∃ q, most % 8 = q := ⟨_, rfl⟩
  rw [hqn] at hm0
  have hkn11 : kn < 12 := by omega
  obtain ⟨qn0, qn1⟩ := hm0
  have HK := Lib.hid hkn
  have HQ := Lib.hid hqn
  have hkI : Hid (1 + (kn : Int) = ((kn + 1 : Nat) : Int)) := Lib.hid (by omega)
  clear hrr hk0 hkn hqn
  by_cases hl : zs.length ≤ 40
  · have hl' : ¬ (40 : Int) < zs.length := by omega
    have hmk := fun w => make_bool (1 + (kn : Int)) (kn + 1) hkI.out (by omega) w
    go_enter Try.func8, Try.ntmps8
    go_wp2_with (first
      | (go_at_call 39; refine (stackFirst_c _).mono ?_; rintro e w' ⟨rfl, K0⟩)
      | (go_at_call 16; refine (number_c _ _ _ (by omega) (by omega)).mono ?_; rintro e w' ⟨rfl, rfl⟩; (first | rw [HK.out] | rw [HQ.out]))
      | (go_at_call 42; refine (table_i _ (kn + 1) hkI.out _ (by omega) (by omega)).mono ?_; rintro e w' ⟨m, b, S, rfl, hkk, hm, hb, hSs, M, HS⟩; have k0s := K0.size; have K0 := K0.trans hkk; have hm := Nat.le_trans k0s hm; have hb := Nat.le_trans k0s hb; have hSs := Nat.le_trans k0s hSs))
    have hUb := K0.size
    generalize hub : w'.heap.size = ub at *
    go_loopw [11, 13] (fun want iv wr => ∃ (i : Nat) (L l : List Int) (T c : Nat) (x : Acc), i ≤ zs.length ∧ iv = .int .i64 i ∧ T ≤ i ∧ c ≤ 3 * i ∧ L.length ≤ i ∧ Row w.heap.size 3 wr want (ivals L) ∧ Has wr ub (flags (kn + 1) L) 4 ∧ Mem wr m b (kn + 1 + 2) l c x ∧ StRep 0 2 (kn + 1) (kn + 1 + 2) l T L ∧ Has wr S (stackOf m (0 : Nat) (2 : Nat) (kn + 1 : Nat)) 138 ∧ Keeps w wr) (fun _ iv _ => zs.length - (intOf iv).toNat)
    case atStart =>
      subst hub
      exact ⟨0, [], _, 0, 0, _, by omega, rfl, by omega, by omega, by simp, Row.nil _ _ _, Has.new _ _ _, M.alloc _, stRep_zero _ (by omega), HS.alloc _, K0.alloc _⟩
    case round =>
      clear M HS K0
      obtain ⟨i, L, l, T, c, x, hi, rfl, hTi, hci, hLi, R, HF, M, RS, HS, K0⟩ := hrel
      have hi1 : Hid (((i : Int) + 1) = ((i + 1 : Nat) : Int)) := Lib.hid (by omega)
      obtain ⟨wad, wcap, hv, -⟩ := R.reads
      subst hv
      by_cases hlt : i < zs.length
      · obtain ⟨bl, off, rfl, hab, hc⟩ := HR.out (by rintro rfl; simp at hlt)
        have c1 := hc i zs[i] (List.getElem?_eq_getElem hlt)
        rw [← K0.cell hab] at c1
        clear hc
        generalize zs[i] = z at *
        have hz := mod_bd z (1 + (kn : Int)) (by omega)
        obtain ⟨r, hr⟩ := Int.eq_ofNat_of_zero_le hz.1
        have HRr := Lib.hid hr
        have hr4 : r < kn + 1 := by omega
        have hlt' : (i : Int) < zs.length := by omega
        clear hr hz
        have nSu : S ≠ ub := HS.ne HF (by decide)
        have nmu : m ≠ ub := Has.ne M.hg HF (by decide)
        have nbu : b ≠ ub := Has.ne M.hb HF (by decide)
        have fu := HF.frozen r
        have cu := HF.cellv (flags_at hr4)
        have szr := K0.size
        by_cases hm : (r : Int) ∈ L
        · rw [decide_eq_true hm] at cu
          have HM := Lib.hid hm
          clear hm
          go_wp2_with (go_at_call 16; refine (number_c _ _ _ (by omega) (by omega)).mono ?_; rintro e w' ⟨rfl, rfl⟩; rw [HRr.out])
          go_roundw
          case rel => exact ⟨i + 1, L, l, T, c, x, by omega, by go_num, by omega, by omega, by omega, R, HF, M, RS, HS, K0⟩
          case measure => simp [intOf]; omega
        · rw [decide_eq_false hm] at cu
          have HM := Lib.hid hm
          have HIt : Hid (itemsB (kn + 1) [(r : Int)]) := Lib.hid ⟨fun z hz => by obtain rfl := List.mem_singleton.1 hz; omega, by simp⟩
          have HNi : Hid (∀ z ∈ [(r : Int)], z ∉ L) := Lib.hid (fun z hz => by obtain rfl := List.mem_singleton.1 hz; exact hm)
          have RU : Row w.heap.size 3 (wr.setCell ⟨ub, r, none⟩ (.bool true)) (.slice wad L.length wcap) (ivals L) := R.far (R.ne HF (by decide)) _
          have HF := (HF.set r (.bool true)).congr (flags_set (L := L) hr4)
          have HSU : Has (wr.setCell ⟨ub, r, none⟩ (.bool true)) S (stackOf m (0 : Nat) (2 : Nat) (kn + 1 : Nat)) 138 := HS.far nSu _
          have MU := M.far (p := ⟨ub, r, none⟩) nmu nbu (.bool true)
          have KU : Keeps w (wr.setCell ⟨ub, r, none⟩ (.bool true)) := K0.setCell hUb _
          clear hm
          go_wp2_with (first
            | (go_at_call 16; refine (number_c _ _ _ (by omega) (by omega)).mono ?_; rintro e w' ⟨rfl, rfl⟩; rw [HRr.out])
            | (go_at_call 43; refine (alone_c (zs := [(r : Int)]) _ _ 3 (reads_one (Has.newAt (by simp)) _) (Nat.le_refl _) (HSU.alloc _) (MU.alloc _) RS HIt.out (by simp) HNi.out (by omega) (by simp) (by simp) (by omega) (by omega)).mono ?_; rintro e w' ⟨rfl, hu, HSU, l', x', M2, RS⟩; have RU := (RU.alloc _).upd hu (fun y hy => by simp only [List.mem_cons, List.not_mem_nil, or_false, not_or]; exact ⟨RU.ne MU.hg (by decide) y hy, RU.ne MU.hb (by decide) y hy⟩); have HF := (HF.alloc _).upd hu (by simp; exact ⟨Ne.symm nmu, Ne.symm nbu⟩); have KU := (KU.alloc _).upd hu (ge_mb hm hb); have szu := KU.size; have MU := M2)
            | (at_builtin; refine wpList_append_ints (B := w.heap.size) (v := .slice (some ⟨w'.heap.size, 0, none⟩) 1 1) (xs := [(r : Int)]) (ys := L) rfl _ _ rfl _ rfl rfl (Row.one (Has.newAt (by simp)) szu) (RU.alloc _).src (by simp; omega) (by simp; omega) ?_; intro v1 w1 R1 U1 O1))
          rw [ownB_some (r := none)] at U1
          have b1 := HF.lt
          have b2 := HSU.lt
          have b3 := MU.lt
          have HF := (HF.alloc (.cells #[.int .i64 r] 3)).upd U1 (by simp; omega)
          have HSU := (HSU.alloc (.cells #[.int .i64 r] 3)).upd U1 (by simp; omega)
          have MU := (MU.alloc (.cells #[.int .i64 r] 3)).upd U1 (by simp; omega) (by simp; omega)
          have KU := (KU.alloc (.cells #[.int .i64 r] 3)).upd U1 (by simp; omega)
          go_roundw
          case rel => exact ⟨i + 1, (r : Int) :: L, l', T + 1, c + 3, x', by omega, by go_num, by omega, by omega, by simp; omega, R1, HF, MU, RS, HSU, KU⟩
          case measure => simp [intOf]; omega
      · obtain rfl : i = zs.length := by omega
        go_wp2_with (first
          | (go_at_call 37; refine (list_c HS M RS.ok).mono ?_; rintro e w' ⟨v5, rfl, hk5, R5⟩; rw [RS.list] at R5; have HS := HS.keeps hk5; have M := M.keeps hk5; have R := R.keeps hk5; have K0 := K0.trans hk5)
          | (go_at_call 22; refine (sameInts_yes _ _ L _ R5.reads R.reads (by omega)).mono ?_; rintro e w' ⟨rfl, hk6⟩; have HS := HS.keeps hk6; have M := M.keeps hk6; have R := R.keeps hk6; have K0 := K0.trans hk6))
        go_loopw [11] (fun want wr => ∃ (L l : List Int) (T : Nat) (c : Int) (x : Acc), T + L.length ≤ 90 ∧ 0 ≤ c ∧ c + 3 * L.length ≤ 400 ∧ L.length ≤ 40 ∧ CutI wr want L ∧ Mem wr m b (kn + 1 + 2) l c x ∧ StRep 0 2 (kn + 1) (kn + 1 + 2) l T L ∧ Has wr S (stackOf m (0 : Nat) (2 : Nat) (kn + 1 : Nat)) 138 ∧ Keeps w wr) (fun want _ => lenOf want)
        case atStart => exact ⟨L, l, T, c, x, by omega, by omega, by omega, by omega, R.cut, M, RS, HS, K0⟩
        case round =>
          clear hi hTi hci hLi HF M RS HS K0 R
          obtain ⟨L, l, T, c, x, hT, hc0, hcc, hL40, CW, M, RS, HS, K0⟩ := hrel
          have CW0 := CW
          have M0 := M
          obtain ⟨wad, wcap, rfl, hwc, hwb⟩ := CW
          by_cases hne : L = []
          · subst hne
            have hw0 : ∃ o, l[0]? = some o ∧ o % 4294967296 = 0 := by
              have h1 := RS.lnk
              have h2 : topI (kn + 1 : Nat) (l.getD 0 0) = -1 := h1
              refine ⟨l.getD 0 0, getD_some (by rw [RS.ok.len]; omega), ?_⟩
              have h3 := RS.low
              unfold topI at h2
              have := Int.emod_nonneg (l.getD 0 0) (show (4294967296 : Int) ≠ 0 by omega)
              have := Int.emod_lt_of_pos (l.getD 0 0) (show (0 : Int) < 4294967296 by omega)
              split at h2 <;> omega
            obtain ⟨o, ho, hom⟩ := hw0
            have HO := Lib.hid ho
            have HOm := Lib.hid hom
            have HLs : Hid (stList 0 2 (kn + 1) l = []) := Lib.hid RS.list
            clear ho hom
            go_wp2_with (first
              | (go_at_call 44; refine (takes_none (1 + qn) (1 + qn) (.inr (.inl ⟨by omega, by omega, rfl⟩)) HS M RS (by omega) (by omega)).mono ?_; rintro e w' ⟨v6, rfl, hu, HS, ⟨x', M⟩, R6⟩; have K0 := K0.upd hu (ge_mb hm hb); obtain ⟨a6, c6, hv6, -⟩ := R6.form; subst hv6)
              | (go_at_call 37; refine (list_c HS M RS.ok).mono ?_; rintro e w' ⟨v5, rfl, hk5, R5⟩; rw [HLs.out] at R5; have M := M.keeps hk5; have K0 := K0.trans hk5; obtain ⟨a5, c5, hv5, -⟩ := R5.form; subst hv5)
              | (go_at_call 32; refine (mpeek_in M 0 HO.out).mono ?_; rintro e w' ⟨rfl, rfl⟩))
            have hAnd : (bits .and .u64 o 4294967295 == 0) = true := by
              have hob := RS.ok.words o (List.mem_of_getElem? HO.out)
              have e := and_mask (v := o) (n := 32) hob.1 hob.2 (by omega)
              rw [show maskI ((32 : Nat) : Int) = 4294967295 by decide] at e
              rw [e]
              have := HOm.out
              simp
              omega
            rw [hAnd]
            go_ret
            exact ⟨rfl, K0⟩
          · obtain ⟨wb, woff, wcur, rfl, HWb, -⟩ := hwb hne
            have HNE := Lib.hid hne
            have hpos := List.length_pos_iff.2 hne
            clear hne hwb
            have hL1 : ∀ {v : Value} {w2 : World}, Row wr.heap.size 3 w2 v (ivals L) → L.length ≤ 1000000 := fun _ => by omega
            clear hL1
            rcases Int.lt_trichotomy (1 + qn) L.length with hq | hq | hq
            · have hk1 : (1 + qn).toNat < L.length := by omega
              have hkc : ¬ wcap = (1 + qn).toNat := by omega
              have hmn : 1 + qn ≤ L.length := by omega
              go_wp2_with (first
                | (go_at_call 44; refine (takes_c (1 + qn) (1 + qn) (1 + qn).toNat (1 + qn + 2) (by omega) (.inr (.inl ⟨by omega, by omega, rfl⟩)) HS M RS HNE.out (by omega) (by omega) (.inr (by omega)) (by omega) (by omega) (by omega)).mono ?_; rintro e w' ⟨v6, rfl, hu, HS, ⟨l', x', M, RS⟩, R6⟩; have CW := CW0.upd hu (fun g cur hg => by simp; exact ⟨Has.ne hg M0.hg (by decide), Has.ne hg M0.hb (by decide)⟩); have K0 := K0.upd hu (ge_mb hm hb))
                | (go_at_call 22; refine (sameInts_yes _ _ (L.take (1 + qn).toNat) _ R6.reads (CW.take (by omega)).reads (by simp; omega)).mono ?_; rintro e w' ⟨rfl, hk6⟩; have HS := HS.keeps hk6; have M := M.keeps hk6; have CW := CW.keeps hk6; have K0 := K0.trans hk6))
              go_roundw
              case rel => exact ⟨L.drop (1 + qn).toNat, l', T + 1, c + (1 + qn + 2), x', by simp; omega, by omega, by simp; omega, by simp; omega, CW.drop (by omega) _ (fun _ => rfl), M, RS, HS, K0⟩
              case measure => simp [lenOf]; omega
            · have hmn : 1 + qn ≤ L.length := by omega
              have hmx : (L.length : Int) ≤ 1 + qn := by omega
              have hk2 : (1 + qn).toNat ≤ L.length := by omega
              have hk3 : L.length ≤ (1 + qn).toNat := by omega
              clear hq
              by_cases hkc : wcap = (1 + qn).toNat
              · subst hkc
                go_wp2_with (first
                  | (go_at_call 44; refine (takes_c (1 + qn) (1 + qn) (1 + qn).toNat (1 + qn + 2) (by omega) (.inr (.inl ⟨by omega, by omega, rfl⟩)) HS M RS HNE.out (by omega) (by omega) (.inr (by omega)) (by omega) (by omega) (by omega)).mono ?_; rintro e w' ⟨v6, rfl, hu, HS, ⟨l', x', M, RS⟩, R6⟩; have CW := CW0.upd hu (fun g cur hg => by simp; exact ⟨Has.ne hg M0.hg (by decide), Has.ne hg M0.hb (by decide)⟩); have K0 := K0.upd hu (ge_mb hm hb))
                  | (go_at_call 22; refine (sameInts_yes _ _ (L.take (1 + qn).toNat) _ R6.reads (CW.take (by omega)).reads (by simp; omega)).mono ?_; rintro e w' ⟨rfl, hk6⟩; have HS := HS.keeps hk6; have M := M.keeps hk6; have CW := CW.keeps hk6; have K0 := K0.trans hk6))
                have eD : L.drop (1 + qn).toNat = [] := List.drop_eq_nil_of_le (hk3)
                rw [eD] at RS
                go_roundw
                case rel => exact ⟨[], l', T + 1, c + (1 + qn + 2), x', by simp; omega, by omega, by simp; omega, by simp, CutI.nil _ _ _ (by omega), M, RS, HS, K0⟩
                case measure => simp [lenOf]; omega
              · skip
                go_wp2_with (first
                  | (go_at_call 44; refine (takes_c (1 + qn) (1 + qn) (1 + qn).toNat (1 + qn + 2) (by omega) (.inr (.inl ⟨by omega, by omega, rfl⟩)) HS M RS HNE.out (by omega) (by omega) (.inr (by omega)) (by omega) (by omega) (by omega)).mono ?_; rintro e w' ⟨v6, rfl, hu, HS, ⟨l', x', M, RS⟩, R6⟩; have CW := CW0.upd hu (fun g cur hg => by simp; exact ⟨Has.ne hg M0.hg (by decide), Has.ne hg M0.hb (by decide)⟩); have K0 := K0.upd hu (ge_mb hm hb))
                  | (go_at_call 22; refine (sameInts_yes _ _ (L.take (1 + qn).toNat) _ R6.reads (CW.take (by omega)).reads (by simp; omega)).mono ?_; rintro e w' ⟨rfl, hk6⟩; have HS := HS.keeps hk6; have M := M.keeps hk6; have CW := CW.keeps hk6; have K0 := K0.trans hk6))
                have eD : L.drop (1 + qn).toNat = [] := List.drop_eq_nil_of_le (hk3)
                rw [eD] at RS
                go_roundw
                case rel => exact ⟨[], l', T + 1, c + (1 + qn + 2), x', by simp; omega, by omega, by simp; omega, by simp, CutI.nil _ _ _ (by omega), M, RS, HS, K0⟩
                case measure => simp [lenOf]; omega
            · have hmn : ¬ 1 + qn ≤ L.length := by omega
              by_cases hkc : wcap = L.length
              · subst hkc
                go_wp2_with (first
                  | (go_at_call 44; refine (takes_c (1 + qn) (1 + qn) L.length (L.length + 2) (by omega) (.inr (.inl ⟨by omega, by omega, rfl⟩)) HS M RS HNE.out (by omega) (by omega) (.inl rfl) (by omega) (by omega) (by omega)).mono ?_; rintro e w' ⟨v6, rfl, hu, HS, ⟨l', x', M, RS⟩, R6⟩; have CW := CW0.upd hu (fun g cur hg => by simp; exact ⟨Has.ne hg M0.hg (by decide), Has.ne hg M0.hb (by decide)⟩); have K0 := K0.upd hu (ge_mb hm hb))
                  | (go_at_call 22; refine (sameInts_yes _ _ (L.take L.length) _ R6.reads (CW.take (by omega)).reads (by simp; omega)).mono ?_; rintro e w' ⟨rfl, hk6⟩; have HS := HS.keeps hk6; have M := M.keeps hk6; have CW := CW.keeps hk6; have K0 := K0.trans hk6))
                have eD : L.drop L.length = [] := List.drop_eq_nil_of_le (Nat.le_refl _)
                rw [eD] at RS
                go_roundw
                case rel => exact ⟨[], l', T + 1, c + ((L.length : Int) + 2), x', by simp; omega, by omega, by simp; omega, by simp, CutI.nil _ _ _ (by omega), M, RS, HS, K0⟩
                case measure => simp [lenOf]; omega
              · skip
                go_wp2_with (first
                  | (go_at_call 44; refine (takes_c (1 + qn) (1 + qn) L.length (L.length + 2) (by omega) (.inr (.inl ⟨by omega, by omega, rfl⟩)) HS M RS HNE.out (by omega) (by omega) (.inl rfl) (by omega) (by omega) (by omega)).mono ?_; rintro e w' ⟨v6, rfl, hu, HS, ⟨l', x', M, RS⟩, R6⟩; have CW := CW0.upd hu (fun g cur hg => by simp; exact ⟨Has.ne hg M0.hg (by decide), Has.ne hg M0.hb (by decide)⟩); have K0 := K0.upd hu (ge_mb hm hb))
                  | (go_at_call 22; refine (sameInts_yes _ _ (L.take L.length) _ R6.reads (CW.take (by omega)).reads (by simp; omega)).mono ?_; rintro e w' ⟨rfl, hk6⟩; have HS := HS.keeps hk6; have M := M.keeps hk6; have CW := CW.keeps hk6; have K0 := K0.trans hk6))
                have eD : L.drop L.length = [] := List.drop_eq_nil_of_le (Nat.le_refl _)
                rw [eD] at RS
                go_roundw
                case rel => exact ⟨[], l', T + 1, c + ((L.length : Int) + 2), x', by simp; omega, by omega, by simp; omega, by simp, CutI.nil _ _ _ (by omega), M, RS, HS, K0⟩
                case measure => simp [lenOf]; omega
  · have hl' : (40 : Int) < zs.length := by omega
    have hmk := fun w => make_bool (1 + (kn : Int)) (kn + 1) hkI.out (by omega) w
    clear HR
    go_enter Try.func8, Try.ntmps8
    go_wp2_with (first
      | (go_at_call 39; refine (stackFirst_c _).mono ?_; rintro e w' ⟨rfl, K0⟩)
      | (go_at_call 16; refine (number_c _ _ _ (by omega) (by omega)).mono ?_; rintro e w' ⟨rfl, rfl⟩; (first | rw [HK.out] | rw [HQ.out]))
      | (go_at_call 42; refine (table_i _ (kn + 1) hkI.out _ (by omega) (by omega)).mono ?_; rintro e w' ⟨m, b, S, rfl, hkk, hm, hb, hSs, M, HS⟩; have K0 := K0.trans hkk))
    go_ret
    exact ⟨rfl, K0⟩
end Go.Proofs.Ytcohhfndaogikaa
