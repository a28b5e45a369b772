/- The law StackLots, walked. -/
import Derived.Test.YtcohhfndaogikaaStackLotsP
namespace Go.Proofs.Ytcohhfndaogikaa
set_option linter.unusedVariables false
set_option linter.unusedSimpArgs false
open Go Go.RowKit
set_option maxRecDepth 100000
set_option maxHeartbeats 2000000

/-- The first of the numbers that are laid. -/
def lotsA (k j : Nat) : List Int := (List.range j).map fun i : Nat => ((i : Int) * 7 + 3) % (k : Int)
theorem lotsA_snoc (k j : Nat) : lotsA k (j + 1) = lotsA k j ++ [((j : Int) * 7 + 3) % (k : Int)] := by simp [lotsA, List.range_succ]
theorem lotsA_len (k j : Nat) : (lotsA k j).length = j := by simp [lotsA]
theorem lotsA_mem {k j : Nat} (hk : 1 ≤ k) {z : Int} (h : z ∈ lotsA k j) : 0 ≤ z ∧ z < k := by
  unfold lotsA at h
  obtain ⟨i, _, rfl⟩ := List.mem_map.1 h
  exact ⟨Int.emod_nonneg _ (by omega), Int.emod_lt_of_pos _ (by omega)⟩
/-- Those that are not among them. -/
def lotsB (a : List Int) (i : Nat) : List Int := (baseL i).filter fun z => decide (z ∉ a)
theorem baseL_succ (i : Nat) : baseL (i + 1) = baseL i ++ [(i : Int)] := by simp [baseL, List.range_succ]
theorem lotsB_in {a : List Int} {i : Nat} (h : (i : Int) ∈ a) : lotsB a (i + 1) = lotsB a i := by
  unfold lotsB; rw [baseL_succ, List.filter_append]; simp [h]
theorem lotsB_out {a : List Int} {i : Nat} (h : (i : Int) ∉ a) : lotsB a (i + 1) = lotsB a i ++ [(i : Int)] := by
  unfold lotsB; rw [baseL_succ, List.filter_append]; simp [h]
theorem lotsB_len (a : List Int) (i : Nat) : (lotsB a i).length ≤ i := by
  have := List.length_filter_le (fun z => decide (z ∉ a)) (baseL i)
  rw [baseL_len] at this
  exact this
theorem lotsB_mem {a : List Int} {i : Nat} {z : Int} (h : z ∈ lotsB a i) : (0 ≤ z ∧ z < i) ∧ z ∉ a := by
  obtain ⟨h1, h2⟩ := List.mem_filter.1 h
  exact ⟨baseL_mem.1 h1, by simpa using h2⟩
theorem lotsB_nodup (a : List Int) (i : Nat) : (lotsB a i).Nodup := List.Sublist.nodup (List.filter_sublist) (baseL_nodup i)
/-- What stands while the lists are made. -/
structure LotsAt (w wr : World) (m b S k : Nat) (l : List Int) (c : Int) (x : Acc) : Prop where
  M : Mem wr m b (k + 2) l c x
  HS : Has wr S (stackOf m (0 : Nat) (2 : Nat) k) 138
  K0 : Keeps w wr
  hm : w.heap.size ≤ m
  hb : w.heap.size ≤ b
theorem LotsAt.same {w wr w' : World} {m b S k : Nat} {l : List Int} {c : Int} {x : Acc} (h : LotsAt w wr m b S k l c x) (hk : Keeps wr w') : LotsAt w w' m b S k l c x :=
  ⟨h.M.keeps hk, h.HS.keeps hk, h.K0.trans hk, h.hm, h.hb⟩
theorem LotsAt.own {w wr w' : World} {m b S k : Nat} {l : List Int} {c : Int} {x : Acc} {v : Value} {xs : List Value} (h : LotsAt w wr m b S k l c x) (R : Row w.heap.size 3 wr v xs) (hu : Upd (ownB v) wr w') : LotsAt w w' m b S k l c x :=
  ⟨h.M.upd hu (fun hx => R.ne h.M.hg (by decide) _ hx rfl) (fun hx => R.ne h.M.hb (by decide) _ hx rfl), h.HS.upd hu (fun hx => R.ne h.HS (by decide) _ hx rfl), h.K0.upd hu (fun y hy => (R.own y hy).1), h.hm, h.hb⟩
theorem LotsAt.mem {w wr w' : World} {m b S k : Nat} {l l' : List Int} {c c' : Int} {x x' : Acc} (h : LotsAt w wr m b S k l c x) (hu : Upd [m, b] wr w') (M' : Mem w' m b (k + 2) l' c' x') : LotsAt w w' m b S k l' c' x' :=
  ⟨M', h.HS.upd hu (hS_ne h.HS h.M), h.K0.upd hu (ge_mb h.hm h.hb), h.hm, h.hb⟩
theorem Row.mem {w wr w' : World} {B m b S k : Nat} {l : List Int} {c : Int} {x : Acc} {v : Value} {xs : List Value} (R : Row B 3 wr v xs) (h : LotsAt w wr m b S k l c x) (hu : Upd [m, b] wr w') : Row B 3 w' v xs :=
  R.upd hu (fun y hy => by simp only [List.mem_cons, List.not_mem_nil, or_false, not_or]; exact ⟨R.ne h.M.hg (by decide) y hy, R.ne h.M.hb (by decide) y hy⟩)
theorem stackLots_c (n at_ : Int) (w : World) :
    Calls Try.prog 9 #[.int .i64 n, .int .i64 at_] w fun e w' => e = .returned (.bool true) ∧ Keeps w w' := by
  have tok : True := trivial
  go_enter Try.func9, Try.ntmps9
  go_wp2_with (first
    | (go_at_call 39; refine (stackFirst_c _).mono ?_; rintro e w' ⟨rfl, K0⟩)
    | (go_at_call 16; have t_ := tok; clear t_ tok; refine (number_ex _ _ _ (by omega) (by omega)).mono ?_; rintro e w' ⟨kn, rfl, hkn, rfl⟩; have hkI : Hid (2 + (kn : Int) = ((kn + 2 : Nat) : Int)) := Lib.hid (by omega))
    | (go_at_call 16; refine (number_ex _ _ _ (by omega) (by omega)).mono ?_; rintro e w' ⟨cn, rfl, hcn, rfl⟩)
    | (go_at_call 42; refine (table_i _ (kn + 2) hkI.out _ (by omega) (by omega)).mono ?_; rintro e w' ⟨m, b, S, rfl, hkk, hm, hb, hSs, M, HS⟩; have k0s := K0.size; have K0 := K0.trans hkk; have hm := Nat.le_trans k0s hm; have hb := Nat.le_trans k0s hb))
  have A0 := Lib.hid (⟨M, HS, K0, hm, hb⟩ : LotsAt w _ m b S (kn + 2) _ _ _)
  clear M HS K0 hkk
  go_loopw [10, 12] (fun av iv wr => ∃ i : Nat, i ≤ kn + 2 ∧ iv = .int .i64 i ∧ Row w.heap.size 3 wr av (ivals (lotsA (kn + 2) (min i (cn + 1)))) ∧ LotsAt w wr m b S (kn + 2) (List.replicate (kn + 2 + 2) 0) 0 ⟨0, 0, 0, 0, false⟩) (fun _ iv _ => kn + 2 - (intOf iv).toNat)
  case atStart => exact ⟨0, by omega, rfl, by simpa [lotsA] using Row.nil _ _ _, A0.out⟩
  case round =>
    clear A0
    obtain ⟨i, hi, rfl, R, A⟩ := hrel
    obtain ⟨aad, acap, hv, -⟩ := R.reads
    subst hv
    have hi1 : Hid (((i : Int) + 1) = ((i + 1 : Nat) : Int)) := Lib.hid (by omega)
    by_cases hlt : i < kn + 2
    · have hlt' : (i : Int) < 2 + (kn : Int) := by omega
      have szr := A.K0.size
      by_cases hc : i < cn + 1
      · have hc' : (i : Int) < 1 + (cn : Int) := by omega
        have e1 : Hid (min i (cn + 1) = i) := Lib.hid (by omega)
        have e2 : Hid (min (i + 1) (cn + 1) = i + 1) := Lib.hid (by omega)
        rw [e1.out] at R ⊢
        have hln := lotsA_len (kn + 2) i
        go_wp2_with (at_builtin; refine wpList_append_ints (B := w.heap.size) (xs := lotsA (kn + 2) i) (ys := [((i : Int) * 7 + 3) % (2 + (kn : Int))]) rfl _ _ rfl _ rfl rfl (R.alloc _) (Has.src (Has.newAt (by simp)) _) (by simp; omega) (by simp; omega) ?_; intro v1 w1 R1 U1 O1)
        have A := (A.same ((Keeps.refl _).alloc (.cells #[.int .i64 (((i : Int) * 7 + 3) % (2 + (kn : Int)))] 3))).own (R.alloc _) U1
        go_roundw
        case rel => exact ⟨i + 1, by omega, by go_num, by rw [e2.out, lotsA_snoc, ← hkI.out]; exact R1, A⟩
        case measure => simp [intOf]; omega
      · have hc' : ¬ (i : Int) < 1 + (cn : Int) := by omega
        have e2 : Hid (min (i + 1) (cn + 1) = min i (cn + 1)) := Lib.hid (by omega)
        go_wp2
        go_roundw
        case rel => exact ⟨i + 1, by omega, by go_num, by rw [e2.out]; exact R, A⟩
        case measure => simp [intOf]; omega
    · obtain rfl : i = kn + 2 := by omega
      rw [show min (kn + 2) (cn + 1) = cn + 1 by omega] at R ⊢
      have hal := lotsA_len (kn + 2) (cn + 1)
      have ham : ∀ z ∈ lotsA (kn + 2) (cn + 1), 0 ≤ z ∧ z < (kn + 2 : Nat) := fun z hz => lotsA_mem (by omega) hz
      generalize lotsA (kn + 2) (cn + 1) = a at *
      have HAM := Lib.hid ham
      have hal2 : a.length ≤ 100 := by omega
      have hal1 : 1 ≤ a.length := by omega
      have hni : ¬ ((kn + 2 : Nat) : Int) < 2 + (kn : Int) := by omega
      have szR := A.K0.size
      clear ham hal hi hlt hi1
      have RR := Lib.hid R
      have AA := Lib.hid A
      clear R A
      go_wp2
      go_loopw [11, 13] (fun bv iv wq => ∃ i : Nat, i ≤ kn + 2 ∧ iv = .int .i64 i ∧ Row w.heap.size 3 wq (.slice aad a.length acap) (ivals a) ∧ Row w.heap.size 3 wq bv (ivals (lotsB a i)) ∧ (∀ y ∈ ownB (.slice aad a.length acap), y ∉ ownB bv) ∧ LotsAt w wq m b S (kn + 2) (List.replicate (kn + 2 + 2) 0) 0 ⟨0, 0, 0, 0, false⟩) (fun _ iv _ => kn + 2 - (intOf iv).toNat)
      case atStart => exact ⟨0, by omega, rfl, RR.out, by simpa [lotsB, baseL] using Row.nil _ _ _, by simp, AA.out⟩
      case round =>
        clear RR AA szR
        obtain ⟨i, hi, rfl, RA, RB, hdj, A⟩ := hrel
        obtain ⟨bad, bcap, hv, -⟩ := RB.reads
        subst hv
        have hi1 : Hid (((i : Int) + 1) = ((i + 1 : Nat) : Int)) := Lib.hid (by omega)
        have hbl := lotsB_len a i
        by_cases hlt : i < kn + 2
        · have hlt' : (i : Int) < 2 + (kn : Int) := by omega
          obtain ⟨ad2, cap2, hv2, hcA⟩ := RA.reads
          cases hv2
          have HCA := Lib.hid hcA
          have HRA := Lib.hid RA
          have HRB := Lib.hid RB
          have HAt := Lib.hid A
          have HDJ := Lib.hid hdj
          clear RA RB A hdj hcA
          go_wp2
          go_loop [14, 15] (fun tv jv => ∃ j : Nat, j ≤ a.length ∧ jv = .int .i64 j ∧ tv = .bool (decide ((i : Int) ∈ a.take j))) (fun _ jv => a.length - (intOf jv).toNat)
          case atStart => exact ⟨0, by omega, rfl, by simp⟩
          case round =>
            obtain ⟨j, hj, rfl, rfl⟩ := hrel
            by_cases hjl : j < a.length
            · obtain ⟨b2, o2, rfl, hb2, hc2⟩ := HCA.out (by rintro rfl; simp at hjl)
              have c2 := hc2 j a[j] (List.getElem?_eq_getElem hjl)
              clear hc2
              obtain ⟨y, hy⟩ : ∃ y, a[j] = y := ⟨_, rfl⟩
              rw [hy] at c2
              have HY := Lib.hid (mem_take_succ (x := (i : Int)) hjl hy)
              clear hy
              have hjl' : (j : Int) < a.length := by omega
              by_cases hm : (i : Int) ∈ a.take j
              · rw [decide_eq_true hm]
                have HM : Hid (decide ((i : Int) ∈ a.take (j + 1)) = true) := Lib.hid (decide_eq_true (HY.out.2 (.inl hm)))
                clear hm
                go_wp2
                go_round
                case rel => exact ⟨j + 1, by omega, by go_num, by rw [HM.out]⟩
                case measure => simp [intOf]; omega
              · rw [decide_eq_false hm]
                by_cases hyz : y = (i : Int)
                · have q : (y == (i : Int)) = true := by simp [hyz]
                  have HM : Hid (decide ((i : Int) ∈ a.take (j + 1)) = true) := Lib.hid (decide_eq_true (HY.out.2 (.inr hyz)))
                  clear hm hyz
                  go_wp2
                  go_round
                  case rel => exact ⟨j + 1, by omega, by go_num, by rw [HM.out]⟩
                  case measure => simp [intOf]; omega
                · have q : (y == (i : Int)) = false := by simp [hyz]
                  have HM : Hid (decide ((i : Int) ∈ a.take (j + 1)) = false) := Lib.hid (decide_eq_false (fun h => (HY.out.1 h).elim hm hyz))
                  clear hm hyz
                  go_wp2
                  go_round
                  case rel => exact ⟨j + 1, by omega, by go_num, by rw [HM.out]⟩
                  case measure => simp [intOf]; omega
            · obtain rfl : j = a.length := by omega
              rw [List.take_length]
              have RA := HRA.out
              have RB := HRB.out
              have A := HAt.out
              have szr := A.K0.size
              by_cases hm : (i : Int) ∈ a
              · rw [decide_eq_true hm]
                have HB := Lib.hid (lotsB_in hm)
                clear hm
                go_wp2
                go_roundw
                case rel => exact ⟨i + 1, by omega, by go_num, RA, by rw [HB.out]; exact RB, HDJ.out, A⟩
                case measure => simp [intOf]; omega
              · rw [decide_eq_false hm]
                have HB := Lib.hid (lotsB_out hm)
                clear hm
                go_wp2_with (at_builtin; refine wpList_append_ints (B := w.heap.size) (xs := lotsB a i) (ys := [(i : Int)]) rfl _ _ rfl _ rfl rfl (RB.alloc _) (Has.src (Has.newAt (by simp)) _) (by simp; omega) (by simp; omega) ?_; intro v1 w1 R1 U1 O1)
                have hdj := HDJ.out
                have RA2 := (RA.alloc (.cells #[.int .i64 (i : Int)] 3)).upd U1 hdj
                have A := (A.same ((Keeps.refl _).alloc (.cells #[.int .i64 (i : Int)] 3))).own (RB.alloc _) U1
                have hdj2 : ∀ y ∈ ownB (.slice aad a.length acap), y ∉ ownB v1 := fun y hy hy1 => by
                  rcases O1 y hy1 with h | h
                  · exact hdj y hy h
                  · have := (RA.own y hy).2; simp at h; omega
                go_roundw
                case rel => exact ⟨i + 1, by omega, by go_num, RA2, by rw [HB.out]; exact R1, hdj2, A⟩
                case measure => simp [intOf]; omega
        · obtain rfl : i = kn + 2 := by omega
          have hni : ¬ ((kn + 2 : Nat) : Int) < 2 + (kn : Int) := by omega
          obtain ⟨d, hd⟩ : ∃ d, dedupL a = d := ⟨_, rfl⟩
          obtain ⟨q, hq⟩ : ∃ q, lotsB a (kn + 2) = q := ⟨_, rfl⟩
          have hdn : d.Nodup := hd ▸ dedupL_nodup a
          have hdm : ∀ z, z ∈ d ↔ z ∈ a := fun z => hd ▸ dedupL_mem a z
          have hdl : d.length ≤ 100 := by have := dedupL_len a; rw [hd] at this; omega
          have hdne : d ≠ [] := by
            obtain ⟨z, hz⟩ := List.exists_mem_of_length_pos (show 0 < a.length by omega)
            intro e
            have := (hdm z).2 hz
            rw [e] at this
            simp at this
          have hdI : itemsB (kn + 2) d := ⟨fun z hz => HAM.out z ((hdm z).1 hz), hdn⟩
          have hqn : q.Nodup := hq ▸ lotsB_nodup a _
          have hqI : itemsB (kn + 2) q := ⟨fun z hz => (lotsB_mem (hq ▸ hz)).1, hqn⟩
          have hqd : ∀ z ∈ q, z ∉ d := fun z hz h => (lotsB_mem (hq ▸ hz)).2 ((hdm z).1 h)
          have hql : q.length ≤ 100 := by have := lotsB_len a (kn + 2); rw [hq] at this; omega
          have HD := Lib.hid hd
          have HDI := Lib.hid hdI
          have HDN := Lib.hid hdne
          have HQI := Lib.hid hqI
          have HQD := Lib.hid hqd
          have RS0 := Lib.hid (stRep_zero (kn + 2) (by omega))
          have szR := A.K0.size
          rw [hq] at RB hbl ⊢
          have hor := Lib.hid RB.reads
          clear hd hq hdn hdm hdne hdI hqn hqI hqd hdj
          have tok : True := trivial
          have tk2 : True := trivial
          have tk3 : True := trivial
          have tk4 : True := trivial
          by_cases hq0 : q = []
          · subst hq0
            go_wp2_with (first
              | (go_at_call 45; refine (distinct_c _ a _ RA.reads (by omega)).mono ?_; rintro e w' ⟨vd, rfl, hkd, RD⟩; rw [HD.out] at RD; have RB := RB.keeps hkd; have A := A.same hkd; obtain ⟨dad, dcap, hv3, -⟩ := RD.reads; subst hv3; have RS := RS0.out)
              | (go_at_call 43; have t_ := tok; clear t_ tok; refine (alone_c (zs := d) _ _ _ RD.reads RD.capLe A.HS A.M RS HDI.out HDN.out (by simp) (by omega) (by omega) rfl (by omega) (by omega)).mono ?_; rintro e w' ⟨rfl, hu, -, l2, x2, M2, RS⟩; rw [List.append_nil] at RS; have RD := RD.mem A hu; have RB := RB.mem A hu; have A := A.mem hu M2)
              | (go_at_call 37; refine (list_c A.HS A.M RS.ok).mono ?_; rintro e w' ⟨v5, rfl, hk5, R5⟩; rw [RS.list] at R5; have A := A.same hk5; have RD := RD.keeps hk5; have RB := RB.keeps hk5)
              | (at_builtin; have t_ := tk2; clear t_ tk2; refine wpList_append_intsG (B := w.heap.size) (v := .slice none 0 0) (xs := []) (ys := []) (by rfl) _ _ (by rfl) _ (by rfl) (by rfl) (Row.nil _ _ _) RB.src (by first | omega | (simp; done) | (simp; omega)) A.K0.size ?_; intro v8 w8 R8 U8 O8; have K8 : Keeps _ w8 := U8.keeps; have A := A.same K8; have RD := RD.keeps K8; have szn := R5.own; have R5 := R5.keeps K8)
              | (at_builtin; refine wpList_append_intsG (B := w.heap.size) (v := v8) (xs := []) (ys := d) (by rfl) _ _ (by rfl) _ (by rfl) (by rfl) R8 RD.src (by first | omega | (simp; done) | (simp; omega)) A.K0.size ?_; intro v9 w9 R9 U9 O9; have R5 := R5.upd U9 (fun y hy h => by rcases O8 y h with h1 | h1; (simp at h1); (have := (szn y hy).2; omega)); have A := A.own R8 U9)
              | (go_at_call 22; have t_ := tk3; clear t_ tk3; refine (sameInts_yes _ _ _ _ R5.reads RD.reads (by omega)).mono ?_; rintro e w' ⟨rfl, hk6⟩; have A := A.same hk6; have RD := RD.keeps hk6; have RB := RB.keeps hk6)
              | (go_at_call 22; refine (sameInts_yes _ _ _ _ R5.reads R9.reads (by first | omega | (simp; done) | (simp; omega))).mono ?_; rintro e w' ⟨rfl, hk6⟩; have A := A.same hk6)
              | (go_at_call 43; refine (alone_nil none 0 A.HS).mono ?_; rintro e w' ⟨rfl, hk7⟩; have A := A.same hk7))
            go_ret
            exact ⟨rfl, A.K0⟩
          · have hqp := List.length_pos_iff.2 hq0
            have HQ0 := Lib.hid hq0
            clear hq0
            go_wp2_with (first
              | (go_at_call 45; refine (distinct_c _ a _ RA.reads (by omega)).mono ?_; rintro e w' ⟨vd, rfl, hkd, RD⟩; rw [HD.out] at RD; have RB := RB.keeps hkd; have A := A.same hkd; obtain ⟨dad, dcap, hv3, -⟩ := RD.reads; subst hv3; have RS := RS0.out)
              | (go_at_call 43; have t_ := tok; clear t_ tok; refine (alone_c (zs := d) _ _ _ RD.reads RD.capLe A.HS A.M RS HDI.out HDN.out (by simp) (by omega) (by omega) rfl (by omega) (by omega)).mono ?_; rintro e w' ⟨rfl, hu, -, l2, x2, M2, RS⟩; rw [List.append_nil] at RS; have RD := RD.mem A hu; have RB := RB.mem A hu; have A := A.mem hu M2)
              | (go_at_call 37; refine (list_c A.HS A.M RS.ok).mono ?_; rintro e w' ⟨v5, rfl, hk5, R5⟩; rw [RS.list] at R5; have A := A.same hk5; have RD := RD.keeps hk5; have RB := RB.keeps hk5)
              | (go_at_call 43; have t_ := tk4; clear t_ tk4; refine (alone_c (zs := q) _ _ _ RB.reads RB.capLe A.HS A.M RS HQI.out HQ0.out HQD.out (by omega) (by omega) rfl (by omega) (by omega)).mono ?_; rintro e w' ⟨rfl, hu, -, l2, x2, M2, RS⟩; have RD := RD.mem A hu; have RB := RB.mem A hu; have A := A.mem hu M2)
              | (at_builtin; have t_ := tk2; clear t_ tk2; refine wpList_append_intsG (B := w.heap.size) (v := .slice none 0 0) (xs := []) (ys := q) (by rfl) _ _ (by rfl) _ (by rfl) (by rfl) (Row.nil _ _ _) RB.src (by first | omega | (simp; done) | (simp; omega)) A.K0.size ?_; intro v8 w8 R8 U8 O8; have K8 : Keeps _ w8 := U8.keeps; have A := A.same K8; have RD := RD.keeps K8; have szn := R5.own; have R5 := R5.keeps K8)
              | (at_builtin; refine wpList_append_intsG (B := w.heap.size) (v := v8) (xs := q) (ys := d) (by rfl) _ _ (by rfl) _ (by rfl) (by rfl) R8 RD.src (by first | omega | (simp; done) | (simp; omega)) A.K0.size ?_; intro v9 w9 R9 U9 O9; have R5 := R5.upd U9 (fun y hy h => by rcases O8 y h with h1 | h1; (simp at h1); (have := (szn y hy).2; omega)); have A := A.own R8 U9)
              | (go_at_call 22; have t_ := tk3; clear t_ tk3; refine (sameInts_yes _ _ _ _ R5.reads RD.reads (by omega)).mono ?_; rintro e w' ⟨rfl, hk6⟩; have A := A.same hk6; have RD := RD.keeps hk6; have RB := RB.keeps hk6)
              | (go_at_call 22; refine (sameInts_yes _ _ _ _ R5.reads R9.reads (by first | omega | (simp; done) | (simp; omega))).mono ?_; rintro e w' ⟨rfl, hk6⟩; have A := A.same hk6)
              | (go_at_call 43; refine (alone_nil none 0 A.HS).mono ?_; rintro e w' ⟨rfl, hk7⟩; have A := A.same hk7))
            go_ret
            exact ⟨rfl, A.K0⟩
end Go.Proofs.Ytcohhfndaogikaa
