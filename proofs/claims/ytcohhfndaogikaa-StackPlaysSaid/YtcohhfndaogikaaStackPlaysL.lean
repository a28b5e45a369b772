/- The law StackPlays, walked. -/
import Derived.Test.YtcohhfndaogikaaGoesM
import Derived.Test.YtcohhfndaogikaaStackTab
import Derived.Test.YtcohhfndaogikaaRStackL
import Derived.LoopTactic
import Derived.Deep.DeepCutAuto
namespace Go.Proofs.Ytcohhfndaogikaa
set_option linter.unusedVariables false
set_option linter.unusedSimpArgs false
open Go Go.RowKit
set_option maxRecDepth 100000
set_option maxHeartbeats 1000000

section
variable {w wr w' : World} {m b S g gb R hb n i : Nat} {C q : Int}
theorem PInv.later (h : PInv w wr m b S g gb R hb n C) (hk : Keeps wr w') : PInv w w' m b S g gb R hb n C := by
  obtain ⟨l, cc, ps, os, xs, ys, ls, cs, ws, T, L, H, ti, A, hcc⟩ := h
  exact ⟨l, cc, ps, os, xs, ys, ls, cs, ws, T, L, H.later hk, ti, A, hcc⟩
theorem PInv.kp (h : PInv w wr m b S g gb R hb n C) : Keeps w wr := by
  obtain ⟨l, cc, ps, os, xs, ys, ls, cs, ws, T, L, H, ti, A, hcc⟩ := h
  exact H.keeps
theorem goes_c (h : PInv w wr m b S g gb R hb n C) (hc0 : 0 ≤ C) (hC : C ≤ 1000) (hi4 : i < 4) (q0 : 0 ≤ q) (q1 : q < 64) (hn9 : n ≤ 9) :
    Calls Try.prog 54 #[.pointer (some ⟨hb, 0, none⟩), .pointer (some ⟨S, 0, none⟩), .pointer (some ⟨R, 0, none⟩), .int .i64 i, .int .i64 q] wr fun e w' => e = .returned (.bool true) ∧ PInv w w' m b S g gb R hb n (C + 1) := by
  obtain ⟨l, cc, ps, os, xs, ys, ls, cs, ws, T, L, H, ti, A, hcc⟩ := h
  obtain ⟨c, hc⟩ : ∃ c, cs[i]? = some c := ⟨_, List.getElem?_eq_getElem (by rw [H.gang.clen]; exact hi4)⟩
  obtain ⟨k, hk⟩ : ∃ k, ws[i]? = some k := ⟨_, List.getElem?_eq_getElem (by have := H.gang.wlen; rw [List.length_map] at this; omega)⟩
  cases hm : k.md with
  | pu s => exact goes_pu q H ti A hcc hC hc hk hm hi4
  | po s => exact goes_po q H ti A hcc hC hc hk hm hi4 hn9
  | no =>
    by_cases hv : q % 2 = 1 ∧ 1 ≤ k.has.length
    · exact goes_push H ti A hc0 hcc hC hc hk hm hi4 q0 q1 hv.1 hv.2 hn9
    · exact goes_pop H ti A hc0 hcc hC hc hk hm hi4 q0 q1 hv
theorem rmnew_i (a : Int) (n : Nat) (ha : a = n) (w : World) (h1 : n ≤ 8388608) :
    Calls Try.prog 52 #[.int .i64 a] w fun e w' => ∃ g b : Nat, e = .returned (.pointer (some ⟨g, 0, none⟩)) ∧ Keeps w w' ∧ w.heap.size ≤ g ∧ w.heap.size ≤ b ∧ RMem w' g b n (List.replicate n 0) 0 := by subst ha; exact rmnew n w h1
end
abbrev ploc0 : PLoc := ⟨none, none, .slice none 0 0, .slice none 0 0, none, none, .slice none 0 0⟩
abbrev pwk0 : Wk := ⟨.no, [], []⟩
theorem pgang0 (w : World) (B S R : Nat) : Gang PLoc.foot (PkRep B S R) w B (List.replicate 4 ploc0) (wks (List.replicate 4 pwk0)) :=
  ⟨fun i c k hc hk => by
    have h1 := List.eq_of_mem_replicate (List.mem_of_getElem? hc)
    have h2 : k = ⟨pwk0, .no⟩ := by
      have := List.mem_of_getElem? hk
      simpa [wks, List.replicate] using this
    subst h1 h2
    exact ⟨⟨rfl, rfl, rfl⟩, ⟨rfl, rfl, rfl⟩, Row.nil _ _ _⟩, by simp [PLoc.foot, PLoc.segs, List.replicate], by simp [PLoc.foot, PLoc.segs, List.replicate], rfl, rfl⟩
theorem pAll0 {n : Nat} {l : List Int} (h : StRep 0 2 n (n + 2) l 0 (baseL n)) : StAll 0 2 n (n + 2) 0 l 0 (baseL n) (List.replicate 4 pwk0) :=
  ⟨h, by decide, fun i k hk => by
    have h2 := List.eq_of_mem_replicate (List.mem_of_getElem? hk)
    subst h2
    exact rfl, by simp [Wk.all, List.replicate]⟩
theorem pties0 : Ties (List.replicate 4 (.pointer none)) (List.replicate 4 (.pointer none)) (List.replicate 4 (.pointer none)) (List.replicate 4 (.pointer none)) (List.replicate 4 (.slice none 0 0)) (List.replicate 4 ploc0) := by
  have key : ∀ (i : Nat) (c : PLoc), (List.replicate 4 ploc0)[i]? = some c → i < 4 ∧ c = ploc0 := fun i c h => ⟨by have := (List.getElem?_eq_some_iff.1 h).1; simpa using this, List.eq_of_mem_replicate (List.mem_of_getElem? h)⟩
  refine ⟨⟨rfl, rfl, rfl, rfl, rfl⟩, fun i c h => ?_, fun i c h => ?_, fun i c t h ht => ?_, fun i c t h ht => ?_, fun i c h => ?_⟩ <;> obtain ⟨hi, rfl⟩ := key i c h
  · rw [List.getElem?_replicate, if_pos hi]; rfl
  · rw [List.getElem?_replicate, if_pos hi]; rfl
  · cases ht
  · cases ht
  · rw [List.getElem?_replicate, if_pos hi]
theorem stackPlays_core (n : Int) (v : Value) (zs : List Int) (w : World) (hr : Reads .i64 w v zs) (hl : zs.length ≤ 120) :
    Calls Try.prog 11 #[.int .i64 n, v] w fun e w' => e = .returned (.bool true) ∧ Keeps w w' := by
  obtain ⟨sa, cap, rfl, hrr⟩ := hr
  have HR := Lib.hid hrr
  have hk0 := mod_bd n 9 (by omega)
  obtain ⟨kn, hkn⟩ := Int.eq_ofNat_of_zero_le hk0.1
  have hkn9 : kn < 9 := by omega
  have HK := Lib.hid hkn
  have hkI : Hid (1 + (kn : Int) = ((kn + 1 : Nat) : Int)) := Lib.hid (by omega)
  have hkJ : Hid (1 + (kn : Int) + 2 = ((kn + 1 + 2 : Nat) : Int)) := Lib.hid (by omega)
  obtain ⟨l0, hl0⟩ : ∃ l0, stFill 0 2 (kn + 1) (List.replicate (kn + 1 + 2) 0) = l0 := ⟨_, rfl⟩
  have RS0 : StRep 0 2 (kn + 1) (kn + 1 + 2) l0 0 (baseL (kn + 1)) := by
    rw [← hl0]
    exact StRep.fill (StOk.zero _ (by omega)) (.inl (by omega)) (by omega)
  have HZ := Lib.hid hl0
  have HRS := Lib.hid RS0
  have hl' : ¬ (120 : Int) < zs.length := by omega
  clear hrr hk0 hkn hl0 RS0
  have tk : True := trivial
  go_enter Try.func11, Try.ntmps11
  go_wp2_with (first
    | (go_at_call 39; refine (stackFirst_c _).mono ?_; rintro e w' ⟨rfl, K0⟩)
    | (go_at_call 16; refine ((number_c _ _ _ (by omega) (by omega))).mono ?_; rintro e w' ⟨rfl, rfl⟩; rw [HK.out])
    | (go_at_call 42; refine (table_i _ (kn + 1) hkI.out _ (by omega) (by omega)).mono ?_; rintro e w' ⟨m, b, S, rfl, hkk, hm, hb, hSs, M, HS⟩; have k0s := K0.size; have K0 := K0.trans hkk; have hm := Nat.le_trans k0s hm; have hb := Nat.le_trans k0s hb; have nSm := hS_ne HS M)
    | (go_at_call 46; refine (fill_c HS M (by omega) (by omega) (by omega) (by omega)).mono ?_; rintro e w' ⟨rfl, hu, M⟩; rw [HZ.out] at M; have HS := HS.upd hu nSm; have K0 := K0.upd hu (ge_mb hm hb))
    | (go_at_call 52; refine (rmnew_i _ (kn + 1 + 2) hkJ.out _ (by omega)).mono ?_; rintro e w' ⟨g, gb, rfl, hkr, hg, hgb, RM⟩; have szK := K0.size; have bne : b ≠ gb := (by have := M.hb.lt; omega); have M := M.keeps hkr; have HS := HS.keeps hkr; have K0 := K0.trans hkr; have hg := Nat.le_trans szK hg; have hgb := Nat.le_trans szK hgb; obtain ⟨R, hR0⟩ : ∃ R, R = w'.heap.size := ⟨_, rfl⟩; have HR0 := Lib.hid hR0; clear hR0)
    | (go_at_call 53; refine (rfill_c (hd := 0) (lk := 2) (n := kn + 1) (Has.congr (Has.new _ _ _) (by show _ = rstackOf g ((0 : Nat) : Int) ((2 : Nat) : Int) ((kn + 1 : Nat) : Int); rw [← hkI.out]; rfl)) (RM.alloc _) (by omega) (by omega) (by omega) (by omega) (.inl (by omega))).mono ?_; rintro e w' ⟨rfl, hur, RM2⟩))
  rw [HZ.out] at RM2
  have hgbl := RM.lt.2
  have HRs := Has.upd (Has.new _ _ _) hur (by simp; omega)
  have M := (M.alloc _).upd hur (by simpa using M.hg.ne RM.hb (by decide)) (by simpa using bne)
  have HS := (HS.alloc _).upd hur (by simpa using HS.ne RM.hb (by decide))
  have szR := K0.size
  have K0 := (K0.alloc _).upd hur (by simp; exact hgb)
  have szK2 := K0.size
  generalize hhb : w'.heap.size = hbk at *
  have HRs2 : Has w' _ (rstackOf g ((0 : Nat) : Int) ((2 : Nat) : Int) ((kn + 1 : Nat) : Int)) 98 := HRs.congr (by rw [← hkI.out]; rfl)
  rw [← HR0.out] at HRs2 ⊢
  go_loopw [12] (fun iv wr => ∃ i : Nat, i ≤ zs.length ∧ iv = .int .i64 i ∧ PInv w wr m b S g gb R hbk (kn + 1) i) (fun iv _ => zs.length - (intOf iv).toNat)
  case atStart =>
    exact ⟨0, by omega, rfl, l0, 0, List.replicate 4 (.pointer none), List.replicate 4 (.pointer none), List.replicate 4 (.pointer none), List.replicate 4 (.pointer none), List.replicate 4 (.slice none 0 0), List.replicate 4 ploc0, List.replicate 4 pwk0, 0, _, ⟨HS.alloc _, HRs2.alloc _, ⟨_, M.alloc _⟩, RM2.alloc _, pgang0 _ _ _ _, Has.newAt hhb, bne, K0.alloc _, hm, hb, hg, hgb, szK2⟩, pties0, pAll0 HRS.out, by omega⟩
  case round =>
    obtain ⟨i, hi, rfl, W⟩ := hrel
    have hi1 : Hid (((i : Int) + 1) = ((i + 1 : Nat) : Int)) := Lib.hid (by omega)
    by_cases hlt : i < zs.length
    · obtain ⟨bl, off, rfl, hab, hc⟩ := HR.out (by rintro rfl; simp at hlt)
      have c1 := hc i zs[i] (List.getElem?_eq_getElem hlt)
      rw [← W.kp.cell hab] at c1
      clear hc
      generalize zs[i] = z at *
      have hlt' : (i : Int) < zs.length := by omega
      have hi0 : (0 : Int) ≤ (i : Int) := by omega
      have hi120 : (i : Int) ≤ 1000 := by omega
      have hkn10 : kn + 1 ≤ 9 := by omega
      go_upto_region 19 with (go_at_call 16; refine (number_e3 _ _ _ ?_ ?_).mono ?_; (focus omega); (focus omega); rintro e w' ⟨r, rfl, hr4, rfl⟩; have hr5 : r < 4 := (by omega))
      go_wp2_with (first
        | (go_at_call 16; refine (number_e3 _ _ _ ?_ ?_).mono ?_; (focus omega); (focus omega); rintro e w' ⟨q, rfl, hq4, rfl⟩; have hq5 : (q : Int) < 64 := hq4; have hq6 : (0 : Int) ≤ (q : Int) := (by omega))
        | (go_at_call 54; refine (goes_c (n := kn + 1) (C := (i : Int)) W hi0 hi120 hr5 hq6 hq5 hkn10).mono ?_; rintro e w' ⟨rfl, W⟩; obtain ⟨l, cc, ps, os, xs, ys, ls, cs, ws, T, L, H, ti, A, hcc⟩ := W; obtain ⟨x, M⟩ := H.mem; have HLs : Hid (stList 0 2 (kn + 1) l = L) := Lib.hid A.rep.list; have HLn : Hid (L.length ≤ 1000000) := Lib.hid (by have := A.rep.len; omega); have HOk := Lib.hid A.rep.ok; have AA := Lib.hid A; have TT := Lib.hid ti; clear A ti)
        | (go_at_call 55; refine (psame_c M H.rmem).mono ?_; rintro e w' ⟨rfl, hk3⟩; have H := H.later hk3; have M := M.keeps hk3)
        | (go_at_call 37; refine (list_c H.hS M HOk.out).mono ?_; rintro e w' ⟨v5, rfl, hk5, R5⟩; rw [HLs.out] at R5; have H := H.later hk5)
        | (go_at_call 38; go_loud (refine (rlist_c H.hR H.rmem HOk.out).mono ?_; rintro e w' ⟨v6, rfl, hk6, R6⟩; rw [HLs.out] at R6; have H := H.later hk6; have R5 := R5.keeps hk6))
        | (go_at_call 22; refine (sameInts_yes _ _ L _ R5.reads R6.reads HLn.out).mono ?_; rintro e w' ⟨rfl, hk7⟩; have H := H.later hk7))
      go_roundw
      case rel => exact ⟨i + 1, by omega, by go_num, by rw [← hi1.out]; exact ⟨_, _, _, _, _, _, _, _, _, _, _, H, TT.out, AA.out, hcc⟩⟩
      case measure => simp [intOf]; omega
    · obtain rfl : i = zs.length := by omega
      go_wp2
      go_ret
      exact ⟨rfl, W.kp⟩
theorem stackPlays_c (n : Int) (v : Value) (zs : List Int) (w : World) (hr : Reads .i64 w v zs) :
    Calls Try.prog 11 #[.int .i64 n, v] w fun e w' => e = .returned (.bool true) ∧ Keeps w w' := by
  by_cases hl : zs.length ≤ 120
  · exact stackPlays_core n v zs w hr hl
  · obtain ⟨sa, cap, rfl, -⟩ := hr
    have hl' : (120 : Int) < zs.length := by omega
    clear hl
    go_enter Try.func11, Try.ntmps11
    go_wp2_with (go_at_call 39; refine (stackFirst_c _).mono ?_; rintro e w' ⟨rfl, K0⟩)
    go_ret
    exact ⟨rfl, K0⟩
end Go.Proofs.Ytcohhfndaogikaa
