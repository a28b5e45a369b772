/- The law EpochHolds, walked. -/
import Derived.Test.YtkpagkopfdblgaaEpochHoldsR
import Derived.Test.YtkpagkopfdblgaaReads
import Derived.LoopTactic
namespace Go.Proofs.Ytkpagkopfdblgaa
set_option linter.unusedVariables false
set_option linter.unusedSimpArgs false
open Go Go.RowKit
set_option maxRecDepth 100000
set_option maxHeartbeats 4000000

theorem hold_start : Hold 0 (-1) (List.replicate (4 + 1) 0) ⟨0, 0, 0, 0⟩ :=
  ⟨rfl, fun v hv => by have := List.eq_of_mem_replicate hv; omega, by decide, rfl, by decide, by decide, by decide, by decide, .inl ⟨by decide, rfl⟩⟩
theorem opts_none {α : Type} (R : Nat → Nat → α → Prop) : Opts R (List.replicate 4 none) :=
  ⟨rfl, fun i g s h => by have := List.eq_of_mem_replicate (List.mem_of_getElem? h); simp at this, fun i j g s t h _ => by have := List.eq_of_mem_replicate (List.mem_of_getElem? h); simp at this⟩
theorem epochHolds_core (st : Int) (v : Value) (zs : List Int) (w : World) (hr : Reads .i64 w v zs) (hl : zs.length ≤ 120) :
    Calls Try.prog 12 #[.int .i64 st, v] w fun e w' => e = .returned (.bool true) ∧ Keeps w w' := by
  obtain ⟨sa, cap, rfl, hrr⟩ := hr
  have HR := Lib.hid hrr
  have hbg := mod_bd st 100 (by omega)
  obtain ⟨bg, hq⟩ : ∃ q, st % 100 = q := ⟨_, rfl⟩
  have HQ := Lib.hid hq
  rw [hq] at hbg
  have hl' : ¬ (120 : Int) < zs.length := by omega
  obtain ⟨l0, hl0⟩ : ∃ l0 : List Int, List.replicate (4 + 1) 0 = l0 := ⟨_, rfl⟩
  have HZ := Lib.hid hl0
  clear hrr hq hl0
  go_enter Try.func12, Try.ntmps12
  go_wp2_with (first
    | (go_at_call 46; refine (epochFirst_c _).mono ?_; rintro e w' ⟨rfl, hk0⟩)
    | (go_at_call 47; refine (epochMade_c 4 _ (by omega) (by omega)).mono ?_; rintro e w' ⟨m, b, E, rfl, hkk, hm, hb, hEs, M, HE⟩; have k0s := hk0.size; have K0 := hk0.trans hkk; have hm := Nat.le_trans k0s hm; have hb := Nat.le_trans k0s hb; rw [HZ.out] at M)
    | (go_at_call 67; refine (mkEnter_c HE (by omega) (by omega)).mono ?_; rintro e w' ⟨nb, rfl, hk2, hgs, HN⟩; have hnb := Nat.le_trans K0.size hgs; have K0 := K0.trans hk2; have M := M.keeps hk2; have HE := HE.keeps hk2; have szK := K0.size)
    | (go_at_call 15; refine (number_c _ _ _ (by omega) (by omega)).mono ?_; rintro e w' ⟨rfl, rfl⟩; rw [HQ.out]))
  rw [← HZ.out] at M
  generalize hea : w'.heap.size = ea at *
  go_loopw [13, 14] (fun av iv wr => ∃ (i : Nat) (at_ : Int) (l : List Int) (n : En) (es : List (Option (Nat × En))) (as_ : List (Option (Nat × Ad))), i ≤ zs.length ∧ iv = .int .i64 i ∧ av = .int .i64 at_ ∧ HoldAt w wr m b E nb ea (ea + 1) i at_ l n es as_) (fun _ iv _ => zs.length - (intOf iv).toNat)
  case atStart =>
    subst hea
    exact ⟨0, -1, _, ⟨0, 0, 0, 0⟩, List.replicate 4 none, List.replicate 4 none, by omega, rfl, rfl, ⟨(HE.alloc _).alloc _, ⟨_, _, (M.alloc _).alloc _, by omega⟩, (HN.alloc _).alloc _, (Has.new _ _ _).alloc _, Has.new1 _ _ _ _, opts_none _, opts_none _, hold_start, (K0.alloc _).alloc _, hm, hb, hnb, szK, by omega⟩⟩
  case round =>
    obtain ⟨i, at_, l, n, es, as_, hi, rfl, rfl, H⟩ := hrel
    have hi1 : Hid (((i : Int) + 1) = ((i + 1 : Nat) : Int)) := Lib.hid (by omega)
    by_cases hlt : i < zs.length
    · obtain ⟨bl, off, rfl, hab, hc⟩ := HR.out (by rintro rfl; simp at hlt)
      have c1 := hc i zs[i] (List.getElem?_eq_getElem hlt)
      rw [← H.keeps.cell hab] at c1
      clear hc
      generalize zs[i] = z at *
      have hz := mod_bd z 4 (by omega)
      obtain ⟨r, hr⟩ := Int.eq_ofNat_of_zero_le hz.1
      have HRr := Lib.hid hr
      have hr4 : r < 4 := by omega
      have hlt' : (i : Int) < zs.length := by omega
      clear hr hz
      by_cases hr0 : r = 0
      · have HR0 : Hid (z % 4 = 0) := Lib.hid (by have := HRr.out; omega)
        by_cases hb1 : (i : Int) < bg
        · go_wp2_with (go_at_call 15; refine (number_c _ _ _ (by omega) (by omega)).mono ?_; rintro e w' ⟨rfl, rfl⟩; rw [HR0.out])
          go_roundw
          case rel =>
            have H1 := H.later (Keeps.refl _)
            rw [hi1.out] at H1
            exact ⟨i + 1, at_, l, n, es, as_, by omega, by go_num, rfl, H1⟩
          case measure => simp [intOf]; omega
        · by_cases hp : 2 ≤ n.ph
          · have HD : Hid (decide (2 ≤ n.ph) = true) := Lib.hid (decide_eq_true hp)
            go_wp2_with (first
              | (go_at_call 15; refine (number_c _ _ _ (by omega) (by omega)).mono ?_; rintro e w' ⟨rfl, rfl⟩; rw [HR0.out])
              | (go_at_call 68; refine (enDone_c H.nrep).mono ?_; rintro e w' ⟨rfl, rfl⟩; rw [HD.out]))
            go_roundw
            case rel =>
              have H1 := H.later (Keeps.refl _)
              rw [hi1.out] at H1
              exact ⟨i + 1, at_, l, n, es, as_, by omega, by go_num, rfl, H1⟩
            case measure => simp [intOf]; omega
          · have hp2 : n.ph < 2 := by omega
            have HD0 : Hid (decide (2 ≤ n.ph) = false) := Lib.hid (decide_eq_false hp)
            have hph : n.ph = 0 ∨ n.ph = 1 := by omega
            have HAT : at_ = -1 := by rcases H.hold.st with h | h; exact h.2; omega
            rcases hph with h0 | h1
            · have HD1 : Hid (decide (2 ≤ (enStep l n).ph) = false) := Lib.hid (by unfold enStep; rw [h0]; rfl)
              have H0 := Lib.hid h0
              subst HAT
              clear h0
              have t0 : True := trivial
              go_wp2_with (first
                | (go_at_call 15; refine (number_c _ _ _ (by omega) (by omega)).mono ?_; rintro e w' ⟨rfl, rfl⟩; rw [HR0.out])
                | (go_at_call 68; have t_ := t0; clear t_ t0; refine (enDone_c H.nrep).mono ?_; rintro e w' ⟨rfl, rfl⟩; rw [HD0.out])
                | (go_at_call 69; refine (H.zero (by omega) hp2).mono ?_; rintro e w' ⟨rfl, HZ0, -⟩; have H2 := HZ0 H0.out)
                | (go_at_call 68; refine (enDone_c H2.nrep).mono ?_; rintro e w' ⟨rfl, rfl⟩; rw [HD1.out]))
              go_roundw
              case rel =>
                rw [hi1.out] at H2
                exact ⟨i + 1, -1, _, _, es, as_, by omega, by go_num, rfl, H2⟩
              case measure => simp [intOf]; omega
            · have HD1 : Hid (decide (2 ≤ (enStep l n).ph) = true) := Lib.hid (by unfold enStep; rw [h1]; rfl)
              have zl := ((H.hold.zero (by omega) hp2).2 h1).2
              have he0 : 0 ≤ l.getD 0 0 := Int.le_trans H.hold.n0 H.hold.n1
              have he1 := H.hold.ep
              obtain ⟨ep, hep⟩ : ∃ ep, l.getD 0 0 = ep := ⟨_, rfl⟩
              rw [hep] at he0 he1 zl
              have HEP := Lib.hid hep
              have HEL := Lib.hid zl
              have H1' := Lib.hid h1
              subst HAT
              clear h1 hep zl
              have t0 : True := trivial
              go_wp2_with (first
                | (go_at_call 15; refine (number_c _ _ _ (by omega) (by omega)).mono ?_; rintro e w' ⟨rfl, rfl⟩; rw [HR0.out])
                | (go_at_call 68; have t_ := t0; clear t_ t0; refine (enDone_c H.nrep).mono ?_; rintro e w' ⟨rfl, rfl⟩; rw [HD0.out])
                | (go_at_call 69; refine (H.zero (by omega) hp2).mono ?_; rintro e w' ⟨rfl, -, HZ1⟩; have H2 := HZ1 H1'.out; rw [HEP.out] at H2)
                | (go_at_call 68; refine (enDone_c H2.nrep).mono ?_; rintro e w' ⟨rfl, rfl⟩; rw [HD1.out])
                | (go_at_call 52; refine (H2.now (by omega)).mono ?_; rintro e w' ⟨rfl, hk⟩; rw [HEL.out]; have H2 := H2.same hk))
              go_roundw
              case rel =>
                rw [hi1.out] at H2
                exact ⟨i + 1, ep, _, _, es, as_, by omega, by go_num, rfl, H2⟩
              case measure => simp [intOf]; omega
      · have q0 : ((r : Int) == 0) = false := by rw [beq_eq_false_iff_ne]; omega
        have r0 : (0 : Int) ≤ (r : Int) := by omega
        have r4 : (r : Int) < 4 := by omega
        have rl : r < as_.length := by rw [H.aopt.len]; exact hr4
        have re : r < es.length := by rw [H.eopt.len]; exact hr4
        have r1 : 1 ≤ r := by omega
        obtain ⟨q6, hq6⟩ : ∃ q6 : Int, wrap64 (z.tdiv 4) % 6 = q6 := ⟨_, rfl⟩
        have HQ6 := Lib.hid hq6
        clear hq6
        obtain ⟨oa, hoa⟩ : ∃ o, as_[r]? = some o := ⟨_, List.getElem?_eq_getElem rl⟩
        obtain ⟨oe, hoe⟩ : ∃ o, es[r]? = some o := ⟨_, List.getElem?_eq_getElem re⟩
        have HOA := Lib.hid hoa
        have HOE := Lib.hid hoe
        clear hoa hoe
        have key : ∀ (l' : List Int) (n' : En) (q' : Int), Hold q' at_ l' n' → 0 ≤ at_ → at_ ≤ l'.getD 0 0 ∧ l'.getD 0 0 ≤ at_ + 1 := by
          intro l' n' q' h ha
          rcases h.st with h | h
          · omega
          · exact ⟨h.2.2.2.1, h.2.2.2.2.1⟩
        have HKEY := Lib.hid key
        clear key
        have atb : at_ ≤ 1000 := by have := H.hold.ep; have := H.hold.st; omega
        cases oa with
        | some p =>
          obtain ⟨g, s⟩ := p
          have ca : wr.cell? ⟨ea + 1, r, none⟩ = some (.pointer (some ⟨g, 0, none⟩)) := H.aarr.cellv (optrs_at (blks_at HOA.out))
          by_cases hdn : 3 ≤ (adStep 4 l s).ph
          · have HDN : Hid (decide (3 ≤ (adStep 4 l s).ph) = true) := Lib.hid (decide_eq_true hdn)
            clear hdn
            by_cases hat : 0 ≤ at_
            · obtain ⟨ep, hep⟩ : ∃ ep, (adMem l s).getD 0 0 = ep := ⟨_, rfl⟩
              have HEP := Lib.hid hep
              have kb := HKEY.out _ _ _ ((H.hold.ad (H.aopt.rep r g s HOA.out).2.1 (by omega)).1) hat
              rw [hep] at kb
              obtain ⟨kb1, kb2⟩ := kb
              clear hep
              have tok : True := trivial
              go_wp2_with (first
                | (go_at_call 15; refine (number_c _ _ _ (by omega) (by omega)).mono ?_; rintro e w' ⟨rfl, rfl⟩; (first | rw [HRr.out] | rw [HQ6.out]))
                | (go_at_call 49; refine (H.adv HOA.out (by omega)).mono ?_; rintro e w' ⟨rfl, H⟩; have ca : World.cell? _ ⟨ea + 1, r, none⟩ = some (.pointer (some ⟨g, 0, none⟩)) := H.aarr.cellv (optrs_at (blks_at (List.getElem?_set_self rl))); have fa := H.aarr.frozen r)
                | (go_at_call 50; refine (adDone_c (H.aopt.rep r g _ (List.getElem?_set_self rl)).1).mono ?_; rintro e w' ⟨rfl, rfl⟩; rw [HDN.out])
                | (go_at_call 52; have t_ := tok; clear t_ tok; refine ((H.setA (i := r) (o := none) (fun _ _ h => by cases h)).now (by omega)).mono ?_; rintro e w' ⟨rfl, hk⟩; rw [HEP.out]; have H := (H.setA (i := r) (o := none) (fun _ _ h => by cases h)).same hk)
                | (go_at_call 52; refine (H.now (by omega)).mono ?_; rintro e w' ⟨rfl, hk⟩; rw [HEP.out]; have H := H.same hk))
              go_roundw
              case rel =>
                rw [hi1.out] at H
                exact ⟨i + 1, at_, _, _, _, _, by omega, by go_num, rfl, H⟩
              case measure => simp [intOf]; omega
            · go_wp2_with (first
                | (go_at_call 15; refine (number_c _ _ _ (by omega) (by omega)).mono ?_; rintro e w' ⟨rfl, rfl⟩; (first | rw [HRr.out] | rw [HQ6.out]))
                | (go_at_call 49; refine (H.adv HOA.out (by omega)).mono ?_; rintro e w' ⟨rfl, H⟩; have ca : World.cell? _ ⟨ea + 1, r, none⟩ = some (.pointer (some ⟨g, 0, none⟩)) := H.aarr.cellv (optrs_at (blks_at (List.getElem?_set_self rl))); have fa := H.aarr.frozen r)
                | (go_at_call 50; refine (adDone_c (H.aopt.rep r g _ (List.getElem?_set_self rl)).1).mono ?_; rintro e w' ⟨rfl, rfl⟩; rw [HDN.out]))
              have H := H.setA (i := r) (o := none) (fun _ _ h => by cases h)
              go_roundw
              case rel =>
                rw [hi1.out] at H
                exact ⟨i + 1, at_, _, _, _, _, by omega, by go_num, rfl, H⟩
              case measure => simp [intOf]; omega
          · have HDN : Hid (decide (3 ≤ (adStep 4 l s).ph) = false) := Lib.hid (decide_eq_false hdn)
            clear hdn
            by_cases hat : 0 ≤ at_
            · obtain ⟨ep, hep⟩ : ∃ ep, (adMem l s).getD 0 0 = ep := ⟨_, rfl⟩
              have HEP := Lib.hid hep
              have kb := HKEY.out _ _ _ ((H.hold.ad (H.aopt.rep r g s HOA.out).2.1 (by omega)).1) hat
              rw [hep] at kb
              obtain ⟨kb1, kb2⟩ := kb
              clear hep
              go_wp2_with (first
                | (go_at_call 15; refine (number_c _ _ _ (by omega) (by omega)).mono ?_; rintro e w' ⟨rfl, rfl⟩; (first | rw [HRr.out] | rw [HQ6.out]))
                | (go_at_call 49; refine (H.adv HOA.out (by omega)).mono ?_; rintro e w' ⟨rfl, H⟩; have ca : World.cell? _ ⟨ea + 1, r, none⟩ = some (.pointer (some ⟨g, 0, none⟩)) := H.aarr.cellv (optrs_at (blks_at (List.getElem?_set_self rl))); have fa := H.aarr.frozen r)
                | (go_at_call 50; refine (adDone_c (H.aopt.rep r g _ (List.getElem?_set_self rl)).1).mono ?_; rintro e w' ⟨rfl, rfl⟩; rw [HDN.out])
                | (go_at_call 52; refine (H.now (by omega)).mono ?_; rintro e w' ⟨rfl, hk⟩; rw [HEP.out]; have H := H.same hk))
              go_roundw
              case rel =>
                rw [hi1.out] at H
                exact ⟨i + 1, at_, _, _, _, _, by omega, by go_num, rfl, H⟩
              case measure => simp [intOf]; omega
            · go_wp2_with (first
                | (go_at_call 15; refine (number_c _ _ _ (by omega) (by omega)).mono ?_; rintro e w' ⟨rfl, rfl⟩; (first | rw [HRr.out] | rw [HQ6.out]))
                | (go_at_call 49; refine (H.adv HOA.out (by omega)).mono ?_; rintro e w' ⟨rfl, H⟩; have ca : World.cell? _ ⟨ea + 1, r, none⟩ = some (.pointer (some ⟨g, 0, none⟩)) := H.aarr.cellv (optrs_at (blks_at (List.getElem?_set_self rl))); have fa := H.aarr.frozen r)
                | (go_at_call 50; refine (adDone_c (H.aopt.rep r g _ (List.getElem?_set_self rl)).1).mono ?_; rintro e w' ⟨rfl, rfl⟩; rw [HDN.out]))
              go_roundw
              case rel =>
                rw [hi1.out] at H
                exact ⟨i + 1, at_, _, _, _, _, by omega, by go_num, rfl, H⟩
              case measure => simp [intOf]; omega
        | none =>
          have ca : wr.cell? ⟨ea + 1, r, none⟩ = some (.pointer none) := H.aarr.cellv (optrs_at (blks_at HOA.out))
          cases oe with
          | some p =>
            obtain ⟨g, s⟩ := p
            have ce : wr.cell? ⟨ea, r, none⟩ = some (.pointer (some ⟨g, 0, none⟩)) := H.earr.cellv (optrs_at (blks_at HOE.out))
            by_cases hdn : 2 ≤ (enStep l s).ph
            · have HDN : Hid (decide (2 ≤ (enStep l s).ph) = true) := Lib.hid (decide_eq_true hdn)
              clear hdn
              by_cases hat : 0 ≤ at_
              · obtain ⟨ep, hep⟩ : ∃ ep, (enMem l s).getD 0 0 = ep := ⟨_, rfl⟩
                have HEP := Lib.hid hep
                have kb := HKEY.out _ _ _ ((H.hold.en (H.eopt.rep r g s HOE.out).2.1 (H.eopt.rep r g s HOE.out).2.2.1 (by omega)).1) hat
                rw [hep] at kb
                obtain ⟨kb1, kb2⟩ := kb
                clear hep
                have tok : True := trivial
                go_wp2_with (first
                  | (go_at_call 15; refine (number_c _ _ _ (by omega) (by omega)).mono ?_; rintro e w' ⟨rfl, rfl⟩; (first | rw [HRr.out] | rw [HQ6.out]))
                  | (go_at_call 69; refine (H.en HOE.out (by omega)).mono ?_; rintro e w' ⟨rfl, H⟩; have ca : World.cell? _ ⟨ea, r, none⟩ = some (.pointer (some ⟨g, 0, none⟩)) := H.earr.cellv (optrs_at (blks_at (List.getElem?_set_self re))); have fa := H.earr.frozen r)
                  | (go_at_call 68; refine (enDone_c (H.eopt.rep r g _ (List.getElem?_set_self re)).1).mono ?_; rintro e w' ⟨rfl, rfl⟩; rw [HDN.out])
                  | (go_at_call 52; have t_ := tok; clear t_ tok; refine ((H.setE (i := r) (o := none) (fun _ _ h => by cases h)).now (by omega)).mono ?_; rintro e w' ⟨rfl, hk⟩; rw [HEP.out]; have H := (H.setE (i := r) (o := none) (fun _ _ h => by cases h)).same hk)
                  | (go_at_call 52; refine (H.now (by omega)).mono ?_; rintro e w' ⟨rfl, hk⟩; rw [HEP.out]; have H := H.same hk))
                go_roundw
                case rel =>
                  rw [hi1.out] at H
                  exact ⟨i + 1, at_, _, _, _, _, by omega, by go_num, rfl, H⟩
                case measure => simp [intOf]; omega
              · go_wp2_with (first
                  | (go_at_call 15; refine (number_c _ _ _ (by omega) (by omega)).mono ?_; rintro e w' ⟨rfl, rfl⟩; (first | rw [HRr.out] | rw [HQ6.out]))
                  | (go_at_call 69; refine (H.en HOE.out (by omega)).mono ?_; rintro e w' ⟨rfl, H⟩; have ca : World.cell? _ ⟨ea, r, none⟩ = some (.pointer (some ⟨g, 0, none⟩)) := H.earr.cellv (optrs_at (blks_at (List.getElem?_set_self re))); have fa := H.earr.frozen r)
                  | (go_at_call 68; refine (enDone_c (H.eopt.rep r g _ (List.getElem?_set_self re)).1).mono ?_; rintro e w' ⟨rfl, rfl⟩; rw [HDN.out]))
                have H := H.setE (i := r) (o := none) (fun _ _ h => by cases h)
                go_roundw
                case rel =>
                  rw [hi1.out] at H
                  exact ⟨i + 1, at_, _, _, _, _, by omega, by go_num, rfl, H⟩
                case measure => simp [intOf]; omega
            · have HDN : Hid (decide (2 ≤ (enStep l s).ph) = false) := Lib.hid (decide_eq_false hdn)
              clear hdn
              by_cases hat : 0 ≤ at_
              · obtain ⟨ep, hep⟩ : ∃ ep, (enMem l s).getD 0 0 = ep := ⟨_, rfl⟩
                have HEP := Lib.hid hep
                have kb := HKEY.out _ _ _ ((H.hold.en (H.eopt.rep r g s HOE.out).2.1 (H.eopt.rep r g s HOE.out).2.2.1 (by omega)).1) hat
                rw [hep] at kb
                obtain ⟨kb1, kb2⟩ := kb
                clear hep
                go_wp2_with (first
                  | (go_at_call 15; refine (number_c _ _ _ (by omega) (by omega)).mono ?_; rintro e w' ⟨rfl, rfl⟩; (first | rw [HRr.out] | rw [HQ6.out]))
                  | (go_at_call 69; refine (H.en HOE.out (by omega)).mono ?_; rintro e w' ⟨rfl, H⟩; have ca : World.cell? _ ⟨ea, r, none⟩ = some (.pointer (some ⟨g, 0, none⟩)) := H.earr.cellv (optrs_at (blks_at (List.getElem?_set_self re))); have fa := H.earr.frozen r)
                  | (go_at_call 68; refine (enDone_c (H.eopt.rep r g _ (List.getElem?_set_self re)).1).mono ?_; rintro e w' ⟨rfl, rfl⟩; rw [HDN.out])
                  | (go_at_call 52; refine (H.now (by omega)).mono ?_; rintro e w' ⟨rfl, hk⟩; rw [HEP.out]; have H := H.same hk))
                go_roundw
                case rel =>
                  rw [hi1.out] at H
                  exact ⟨i + 1, at_, _, _, _, _, by omega, by go_num, rfl, H⟩
                case measure => simp [intOf]; omega
              · go_wp2_with (first
                  | (go_at_call 15; refine (number_c _ _ _ (by omega) (by omega)).mono ?_; rintro e w' ⟨rfl, rfl⟩; (first | rw [HRr.out] | rw [HQ6.out]))
                  | (go_at_call 69; refine (H.en HOE.out (by omega)).mono ?_; rintro e w' ⟨rfl, H⟩; have ca : World.cell? _ ⟨ea, r, none⟩ = some (.pointer (some ⟨g, 0, none⟩)) := H.earr.cellv (optrs_at (blks_at (List.getElem?_set_self re))); have fa := H.earr.frozen r)
                  | (go_at_call 68; refine (enDone_c (H.eopt.rep r g _ (List.getElem?_set_self re)).1).mono ?_; rintro e w' ⟨rfl, rfl⟩; rw [HDN.out]))
                go_roundw
                case rel =>
                  rw [hi1.out] at H
                  exact ⟨i + 1, at_, _, _, _, _, by omega, by go_num, rfl, H⟩
                case measure => simp [intOf]; omega
          | none =>
            have ce : wr.cell? ⟨ea, r, none⟩ = some (.pointer none) := H.earr.cellv (optrs_at (blks_at HOE.out))
            by_cases h6 : q6 = 0
            · subst h6
              by_cases hat : 0 ≤ at_
              · obtain ⟨ep, hep⟩ : ∃ ep, (l.set ((1 : Int) + r).toNat 0).getD 0 0 = ep := ⟨_, rfl⟩
                have HEP := Lib.hid hep
                have kb := HKEY.out _ _ _ ((H.hold.later.put (i := ((1 : Int) + r).toNat) (v := 0) (by omega) (by omega) (by omega)).1) hat
                rw [hep] at kb
                obtain ⟨kb1, kb2⟩ := kb
                clear hep
                have tok : True := trivial
                go_wp2_with (first
                  | (go_at_call 15; refine (number_c _ _ _ (by omega) (by omega)).mono ?_; rintro e w' ⟨rfl, rfl⟩; (first | rw [HRr.out] | rw [HQ6.out]))
                  | (go_at_call 70; refine (mkLeave_c H.hE (by omega) (by omega)).mono ?_; rintro e w' ⟨x, rfl, hkx, hgx, HX⟩; have hgx := Nat.le_trans H.keeps.size hgx; have H := H.same hkx)
                  | (go_at_call 71; refine (H.leave HX hgx r1 hr4 (by omega)).mono ?_; rintro e w' ⟨rfl, H⟩)
                  | (go_at_call 52; refine (H.now (by omega)).mono ?_; rintro e w' ⟨rfl, hk⟩; rw [HEP.out]; have H := H.same hk))
                go_roundw
                case rel =>
                  rw [hi1.out] at H
                  exact ⟨i + 1, at_, _, _, _, _, by omega, by go_num, rfl, H⟩
                case measure => simp [intOf]; omega
              · go_wp2_with (first
                  | (go_at_call 15; refine (number_c _ _ _ (by omega) (by omega)).mono ?_; rintro e w' ⟨rfl, rfl⟩; (first | rw [HRr.out] | rw [HQ6.out]))
                  | (go_at_call 70; refine (mkLeave_c H.hE (by omega) (by omega)).mono ?_; rintro e w' ⟨x, rfl, hkx, hgx, HX⟩; have hgx := Nat.le_trans H.keeps.size hgx; have H := H.same hkx)
                  | (go_at_call 71; refine (H.leave HX hgx r1 hr4 (by omega)).mono ?_; rintro e w' ⟨rfl, H⟩))
                go_roundw
                case rel =>
                  rw [hi1.out] at H
                  exact ⟨i + 1, at_, _, _, _, _, by omega, by go_num, rfl, H⟩
                case measure => simp [intOf]; omega
            · have q6e : (q6 == 0) = false := by rw [beq_eq_false_iff_ne]; exact h6
              by_cases h61 : q6 = 1
              · subst h61
                clear h6
                have hq0 : (0 : Int) ≤ (i : Int) + 1 := by omega
                have fe := H.earr.frozen r
                by_cases hat : 0 ≤ at_
                · obtain ⟨ep, hep⟩ : ∃ ep, (l).getD 0 0 = ep := ⟨_, rfl⟩
                  have HEP := Lib.hid hep
                  have kb := HKEY.out _ _ _ (H.hold) hat
                  rw [hep] at kb
                  obtain ⟨kb1, kb2⟩ := kb
                  clear hep
                  have tok : True := trivial
                  go_wp2_with (first
                    | (go_at_call 15; refine (number_c _ _ _ (by omega) (by omega)).mono ?_; rintro e w' ⟨rfl, rfl⟩; (first | rw [HRr.out] | rw [HQ6.out]))
                    | (go_at_call 67; refine (mkEnter_c H.hE (by omega) (by omega)).mono ?_; rintro e w' ⟨x, rfl, hkx, hgx, HX⟩; have hfr := H.fresh hgx; have hgx := Nat.le_trans H.keeps.size hgx; have H := H.later hkx; have fe := H.earr.frozen r; have ce : World.cell? _ ⟨ea, r, none⟩ = some (.pointer none) := H.earr.cellv (optrs_at (blks_at HOE.out)))
                    | (go_at_call 52; have t_ := tok; clear t_ tok; refine ((H.setE (i := r) (o := some (x, ⟨0, 0, r, 0⟩)) (fun g' s' h => by cases h; exact ⟨HX, ⟨rfl, Int.le_refl 0, hq0, Int.le_refl 0, hq0⟩, r1, hgx, hfr.1, hfr.2.2⟩)).now (by omega)).mono ?_; rintro e w' ⟨rfl, hk⟩; rw [HEP.out]; have H := (H.setE (i := r) (o := some (x, ⟨0, 0, r, 0⟩)) (fun g' s' h => by cases h; exact ⟨HX, ⟨rfl, Int.le_refl 0, hq0, Int.le_refl 0, hq0⟩, r1, hgx, hfr.1, hfr.2.2⟩)).same hk)
                    | (go_at_call 52; refine (H.now (by omega)).mono ?_; rintro e w' ⟨rfl, hk⟩; rw [HEP.out]; have H := H.same hk))
                  go_roundw
                  case rel =>
                    rw [hi1.out] at H
                    exact ⟨i + 1, at_, _, _, _, _, by omega, by go_num, rfl, H⟩
                  case measure => simp [intOf]; omega
                · go_wp2_with (first
                    | (go_at_call 15; refine (number_c _ _ _ (by omega) (by omega)).mono ?_; rintro e w' ⟨rfl, rfl⟩; (first | rw [HRr.out] | rw [HQ6.out]))
                    | (go_at_call 67; refine (mkEnter_c H.hE (by omega) (by omega)).mono ?_; rintro e w' ⟨x, rfl, hkx, hgx, HX⟩; have hfr := H.fresh hgx; have hgx := Nat.le_trans H.keeps.size hgx; have H := H.later hkx; have fe := H.earr.frozen r; have ce : World.cell? _ ⟨ea, r, none⟩ = some (.pointer none) := H.earr.cellv (optrs_at (blks_at HOE.out))))
                  have H := (H.setE (i := r) (o := some (x, ⟨0, 0, r, 0⟩)) (fun g' s' h => by cases h; exact ⟨HX, ⟨rfl, Int.le_refl 0, hq0, Int.le_refl 0, hq0⟩, r1, hgx, hfr.1, hfr.2.2⟩))
                  go_roundw
                  case rel =>
                    rw [hi1.out] at H
                    exact ⟨i + 1, at_, _, _, _, _, by omega, by go_num, rfl, H⟩
                  case measure => simp [intOf]; omega
              · have q6f : (q6 == 1) = false := by rw [beq_eq_false_iff_ne]; exact h61
                clear h6 h61
                have hq0 : (0 : Int) ≤ (i : Int) + 1 := by omega
                have hl0 : 0 ≤ l.getD 0 0 := Int.le_trans H.hold.n0 H.hold.n1
                have fe := H.aarr.frozen r
                by_cases hat : 0 ≤ at_
                · obtain ⟨ep, hep⟩ : ∃ ep, (l).getD 0 0 = ep := ⟨_, rfl⟩
                  have HEP := Lib.hid hep
                  have kb := HKEY.out _ _ _ (H.hold) hat
                  rw [hep] at kb
                  obtain ⟨kb1, kb2⟩ := kb
                  clear hep
                  have tok : True := trivial
                  go_wp2_with (first
                    | (go_at_call 15; refine (number_c _ _ _ (by omega) (by omega)).mono ?_; rintro e w' ⟨rfl, rfl⟩; (first | rw [HRr.out] | rw [HQ6.out]))
                    | (go_at_call 48; refine (adNew_c H.hE).mono ?_; rintro e w' ⟨x, rfl, hkx, hgx, HX⟩; have hfr := H.fresh hgx; have hgx := Nat.le_trans H.keeps.size hgx; have H := H.later hkx; have fe := H.aarr.frozen r; have ca : World.cell? _ ⟨ea + 1, r, none⟩ = some (.pointer none) := H.aarr.cellv (optrs_at (blks_at HOA.out)))
                    | (go_at_call 52; have t_ := tok; clear t_ tok; refine ((H.setA (i := r) (o := some (x, ⟨0, 0, 0, 0, false⟩)) (fun g' s' h => by cases h; exact ⟨HX, ⟨Int.le_refl 0, hl0, Int.le_refl 0, fun _ => by show (0 : Int) < 4; decide, Int.le_refl 0, hq0, fun _ => rfl, fun _ h => by simp at h⟩, r1, hgx, hfr.2.1⟩)).now (by omega)).mono ?_; rintro e w' ⟨rfl, hk⟩; rw [HEP.out]; have H := (H.setA (i := r) (o := some (x, ⟨0, 0, 0, 0, false⟩)) (fun g' s' h => by cases h; exact ⟨HX, ⟨Int.le_refl 0, hl0, Int.le_refl 0, fun _ => by show (0 : Int) < 4; decide, Int.le_refl 0, hq0, fun _ => rfl, fun _ h => by simp at h⟩, r1, hgx, hfr.2.1⟩)).same hk)
                    | (go_at_call 52; refine (H.now (by omega)).mono ?_; rintro e w' ⟨rfl, hk⟩; rw [HEP.out]; have H := H.same hk))
                  go_roundw
                  case rel =>
                    rw [hi1.out] at H
                    exact ⟨i + 1, at_, _, _, _, _, by omega, by go_num, rfl, H⟩
                  case measure => simp [intOf]; omega
                · go_wp2_with (first
                    | (go_at_call 15; refine (number_c _ _ _ (by omega) (by omega)).mono ?_; rintro e w' ⟨rfl, rfl⟩; (first | rw [HRr.out] | rw [HQ6.out]))
                    | (go_at_call 48; refine (adNew_c H.hE).mono ?_; rintro e w' ⟨x, rfl, hkx, hgx, HX⟩; have hfr := H.fresh hgx; have hgx := Nat.le_trans H.keeps.size hgx; have H := H.later hkx; have fe := H.aarr.frozen r; have ca : World.cell? _ ⟨ea + 1, r, none⟩ = some (.pointer none) := H.aarr.cellv (optrs_at (blks_at HOA.out))))
                  have H := (H.setA (i := r) (o := some (x, ⟨0, 0, 0, 0, false⟩)) (fun g' s' h => by cases h; exact ⟨HX, ⟨Int.le_refl 0, hl0, Int.le_refl 0, fun _ => by show (0 : Int) < 4; decide, Int.le_refl 0, hq0, fun _ => rfl, fun _ h => by simp at h⟩, r1, hgx, hfr.2.1⟩))
                  go_roundw
                  case rel =>
                    rw [hi1.out] at H
                    exact ⟨i + 1, at_, _, _, _, _, by omega, by go_num, rfl, H⟩
                  case measure => simp [intOf]; omega
    · obtain rfl : i = zs.length := by omega
      go_wp2
      go_ret
      exact ⟨rfl, H.keeps⟩
end Go.Proofs.Ytkpagkopfdblgaa
