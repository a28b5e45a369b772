/- goes, walked: a Push, a Pop begins. -/
import Derived.Test.YtcohhfndaogikaaGoesP
namespace Go.Proofs.Ytcohhfndaogikaa
set_option linter.unusedVariables false
set_option linter.unusedSimpArgs false
open Go Go.RowKit
set_option maxRecDepth 100000
set_option maxHeartbeats 2000000

section
variable {w wr w' : World} {m b S g gb R hb n : Nat} {l l2 : List Int} {cc c2 C : Int} {ps os xs ys ls : List Value} {cs : List PLoc} {ks : List PWk} {ws : List Wk} {L : List Int} {i t T : Nat} {c : PLoc} {k : Wk} {q : Int}
theorem number_e3 (v n : Int) (w : World) (h : 1 ≤ n) (h2 : n ≤ 4611686018427387904) : Calls Try.prog 16 #[.int .i64 v, .int .i64 n] w fun e w' => ∃ q : Nat, e = .returned (.int .i64 q) ∧ (q : Int) < n ∧ w = w' := by
  have hb := mod_bd v n h
  obtain ⟨q, hq⟩ := Int.eq_ofNat_of_zero_le hb.1
  refine (number_c v n w h h2).mono ?_
  rintro e w' ⟨rfl, rfl⟩
  exact ⟨q, by rw [hq], by omega, rfl⟩
theorem rmkPush_n (zs : List Int) (nn : Nat) (hn : nn = zs.length) (a : Option Addr) (cap : Nat) (hs : Src w (.slice a nn cap) zs) (hne : zs ≠ []) (hl : zs.length ≤ 1000000) :
    Calls Try.prog 98 #[.pointer (some ⟨S, 0, none⟩), .slice a nn cap] w fun e w' => ∃ T v', e = .returned (.pointer (some ⟨T, 0, none⟩)) ∧ Keeps w w' ∧ w.heap.size ≤ T ∧ RPuRep w' w.heap.size T S v' (pu0 zs) := by
  subst hn
  refine (rmkPush_c zs a cap hs hne hl).mono ?_
  rintro e w' ⟨T, v', rfl, hk, hT, hh, hr⟩
  refine ⟨T, v', rfl, hk, hT, ?_, hr⟩
  have hp := List.length_pos_iff.2 hne
  have e1 : rpuAt (pu0 zs) = 0 := by
    unfold rpuAt pu0 puPh
    dsimp only
    rw [if_neg (show ¬ zs.length = 0 by omega)]
    by_cases h1 : zs.length = 1
    · simp [h1]
    · simp [h1]
  have e2 : decide (4 ≤ (pu0 zs).ph) = false := by
    unfold pu0 puPh
    dsimp only
    rw [if_neg (show ¬ zs.length = 0 by omega)]
    by_cases h1 : zs.length = 1
    · simp [h1]
    · simp [h1]
  rw [e1, e2]
  exact hh
theorem rmkPop_n (most q : Int) (hq : (8 < most ∧ q = 8) ∨ (1 ≤ most ∧ most ≤ 8 ∧ q = most) ∨ (most < 1 ∧ q = 1)) :
    Calls Try.prog 99 #[.pointer (some ⟨S, 0, none⟩), .int .i64 most] w fun e w' => ∃ T, e = .returned (.pointer (some ⟨T, 0, none⟩)) ∧ Keeps w w' ∧ w.heap.size ≤ T ∧ RPoRep w' w.heap.size T S (.slice none 0 0) ⟨0, 0, q, 0, 0, []⟩ :=
  (rmkPop_c most q hq).mono fun e w' ⟨T, h1, h2, h3, h4⟩ => ⟨T, h1, h2, h3, h4, Row.nil _ _ _⟩
theorem PInv.push_end {gp gx cn : Nat} {v2 d2 h6 : Value} {tk1 : List Int} (H : PA w wr m b S g gb R hb n l l cc cc (ps.set i (.pointer (some ⟨gp, 0, none⟩))) os (xs.set i (.pointer (some ⟨gx, 0, none⟩))) ys (ls.set i h6) (cs.set i { p := some gp, o := c.o, v := v2, h := h6, x := some gx, y := c.y, d := d2 }) ((wks ws).set i ⟨⟨.pu (pu0 tk1), k.has.drop cn, tk1⟩, .pu (pu0 tk1)⟩))
    (ti : Ties ps os xs ys ls cs) (hc : cs[i]? = some c) (A : StAll 0 2 n (n + 2) (C + 1) l T L (ws.set i ⟨.pu (pu0 tk1), k.has.drop cn, tk1⟩)) (hcc : cc ≤ C) (hi4 : i < 4) : PInv w wr m b S g gb R hb n (C + 1) := by
  have tl := ti.len
  have hl := (List.getElem?_eq_some_iff.1 hc).1
  have H' : PA w wr m b S g gb R hb n l l cc cc (ps.set i (.pointer (some ⟨gp, 0, none⟩))) os (xs.set i (.pointer (some ⟨gx, 0, none⟩))) ys (ls.set i h6) (cs.set i { p := some gp, o := c.o, v := v2, h := h6, x := some gx, y := c.y, d := d2 }) (wks (ws.set i ⟨.pu (pu0 tk1), k.has.drop cn, tk1⟩)) := by
    rw [wks, ← pws_set]; exact H
  exact ⟨_, _, _, _, _, _, _, _, _, _, _, H', ti.turn hl ⟨by simp [tl.p], tl.o, by simp [tl.x], tl.y, by simp [tl.l]⟩ (set_at _ (by rw [tl.p]; exact hi4)) (keep_at _ (ti.o i c hc)) ⟨fun t e => by cases e; exact (set_at _ (by rw [tl.x]; exact hi4)).1, (set_at _ (by rw [tl.x]; exact hi4)).2⟩ ⟨fun t e => ti.y i c t hc e, fun _ _ => rfl⟩ (set_at _ (by rw [tl.l]; exact hi4)), A, by omega⟩
theorem PInv.pop_end {gp gy : Nat} {s : Po} (H : PA w wr m b S g gb R hb n l l cc cc ps (os.set i (.pointer (some ⟨gp, 0, none⟩))) xs (ys.set i (.pointer (some ⟨gy, 0, none⟩))) ls (cs.set i { p := c.p, o := some gp, v := .slice none 0 0, h := c.h, x := c.x, y := some gy, d := .slice none 0 0 }) ((wks ws).set i ⟨⟨.po s, k.has, k.puts⟩, .po s⟩))
    (ti : Ties ps os xs ys ls cs) (hc : cs[i]? = some c) (A : StAll 0 2 n (n + 2) (C + 1) l T L (ws.set i ⟨.po s, k.has, k.puts⟩)) (hcc : cc ≤ C) (hi4 : i < 4) : PInv w wr m b S g gb R hb n (C + 1) := by
  have tl := ti.len
  have hl := (List.getElem?_eq_some_iff.1 hc).1
  have H' : PA w wr m b S g gb R hb n l l cc cc ps (os.set i (.pointer (some ⟨gp, 0, none⟩))) xs (ys.set i (.pointer (some ⟨gy, 0, none⟩))) ls (cs.set i { p := c.p, o := some gp, v := .slice none 0 0, h := c.h, x := c.x, y := some gy, d := .slice none 0 0 }) (wks (ws.set i ⟨.po s, k.has, k.puts⟩)) := by
    rw [wks, ← pws_set]; exact H
  exact ⟨_, _, _, _, _, _, _, _, _, _, _, H', ti.turn hl ⟨tl.p, by simp [tl.o], tl.x, by simp [tl.y], tl.l⟩ (keep_at _ (ti.p i c hc)) (set_at _ (by rw [tl.o]; exact hi4)) ⟨fun t e => ti.x i c t hc e, fun _ _ => rfl⟩ ⟨fun t e => by cases e; exact (set_at _ (by rw [tl.y]; exact hi4)).1, (set_at _ (by rw [tl.y]; exact hi4)).2⟩ (keep_at _ (ti.l i c hc)), A, by omega⟩
theorem goes_pop (H : PA w wr m b S g gb R hb n l l cc cc ps os xs ys ls cs (wks ws)) (ti : Ties ps os xs ys ls cs) (A : StAll 0 2 n (n + 2) C l T L ws) (hc0 : 0 ≤ C) (hcc : cc ≤ C) (hC : C ≤ 1000) (hc : cs[i]? = some c) (hk : ws[i]? = some k) (hmd : k.md = .no) (hi4 : i < 4) (q0 : 0 ≤ q) (q1 : q < 64) (hv : ¬ (q % 2 = 1 ∧ 1 ≤ k.has.length)) :
    Calls Try.prog 54 #[.pointer (some ⟨hb, 0, none⟩), .pointer (some ⟨S, 0, none⟩), .pointer (some ⟨R, 0, none⟩), .int .i64 i, .int .i64 q] wr fun e w' => e = .returned (.bool true) ∧ PInv w w' m b S g gb R hb n (C + 1) := by
  have hks := pws_at hk
  have P := H.gang.rep i c _ hc hks
  have md := P.md
  have rmd := P.rmd
  have RH := P.has
  dsimp only at md rmd RH
  rw [hmd] at md rmd
  obtain ⟨hcp, hco, hcv⟩ := md
  obtain ⟨hcx, hcy, hcd⟩ := rmd
  have hkl : i < (wks ws).length := by simp [wks]; exact (List.getElem?_eq_some_iff.1 hk).1
  have hcl := (List.getElem?_eq_some_iff.1 hc).1
  obtain ⟨qm, hqm⟩ : ∃ qm, (8 < q / 2 - 1 ∧ qm = 8) ∨ (1 ≤ q / 2 - 1 ∧ q / 2 - 1 ≤ 8 ∧ qm = q / 2 - 1) ∨ (q / 2 - 1 < 1 ∧ qm = 1) := by
    by_cases h1 : 8 < q / 2 - 1
    · exact ⟨8, .inl ⟨h1, rfl⟩⟩
    · by_cases h2 : 1 ≤ q / 2 - 1
      · exact ⟨q / 2 - 1, .inr (.inl ⟨h2, by omega, rfl⟩)⟩
      · exact ⟨1, .inr (.inr ⟨by omega, rfl⟩)⟩
  have HQm := Lib.hid hqm
  have HPc : Hid ((handsOf ps os xs ys ls)[i]? = some (.pointer none)) := Lib.hid (by rw [ti.len.at_p hi4, ti.p i c hc, hcp]; rfl)
  have HOc : Hid ((handsOf ps os xs ys ls)[4 + i]? = some (.pointer none)) := Lib.hid (by rw [ti.len.at_o hi4, ti.o i c hc, hco]; rfl)
  obtain ⟨yv, hyv⟩ : ∃ v, ys[i]? = some v := ⟨_, List.getElem?_eq_getElem (by rw [ti.len.y]; exact hi4)⟩
  have HYc : Hid ((handsOf ps os xs ys ls)[12 + i]? = some yv) := Lib.hid (by rw [ti.len.at_y hi4, hyv])
  obtain ⟨ah, caph, hvh, -⟩ := RH.reads
  have HHc : Hid ((handsOf ps os xs ys ls)[16 + i]? = some (.slice ah k.has.length caph)) := Lib.hid (by rw [ti.len.at_l hi4, ti.l i c hc, hvh])
  have AA : Hid (StAll 0 2 n (n + 2) (C + 1) l T L (ws.set i ⟨.po ⟨0, 0, qm, 0, 0, []⟩, k.has, k.puts⟩)) := Lib.hid (A.newPo hk hmd hc0 _)
  have HC := Lib.hid hc
  have HKs := Lib.hid hks
  have HM := Lib.hid hmd
  have HTi := Lib.hid ti
  have hk1 : Hid (∀ c' : PWk, ((wks ws).set i c')[i]? = some c') := Lib.hid (fun c' => List.getElem?_set_self hkl)
  have hc1 : Hid (∀ c' : PLoc, (cs.set i c')[i]? = some c') := Lib.hid (fun c' => List.getElem?_set_self hcl)
  have cp := H.hands.cellv HPc.out
  have co := H.hands.cellv HOc.out
  have cy := H.hands.cellv HYc.out
  have ch := H.hands.cellv HHc.out
  have fo := H.hands.frozen (4 + i)
  have fy := H.hands.frozen (12 + i)
  have i0 : (0 : Int) ≤ (i : Int) := by omega
  have i4 : (i : Int) < 4 := by omega
  have e1 : IntKind.i64.wrap (q.tdiv 2) = q / 2 := by rw [Int.tdiv_eq_ediv_of_nonneg q0]; exact wrapI_ok _ (by omega) (by omega)
  have e2 : IntKind.i64.wrap (q / 2 - 1) = q / 2 - 1 := wrapI_ok _ (by omega) (by omega)
  have hpre : (q % 2 == 1) = true ∧ ¬ (0 : Int) < (k.has.length : Int) ∨ (q % 2 == 1) = false := by
    by_cases h1 : q % 2 = 1
    · left; exact ⟨by simp [h1], by omega⟩
    · right; simp [h1]
  clear P hcp hco hcv hcx hcy hcd hc hks hk hmd ti A hkl hcl hyv hvh RH hqm hv
  rcases hpre with ⟨h1, h2⟩ | h1
  all_goals (
    go_enter Try.func54, Try.ntmps54
    go_wp2
    go_region_law (first
      | (go_simp; (go_at_call 47; refine (mkPop_c (B := wr.heap.size) _ qm HQm.out).mono ?_; rintro e w' ⟨gp, rfl, hk5, hg5, hr5⟩; have H := (H.later (by ((repeat' (first | (with_reducible exact Keeps.refl _) | (with_reducible assumption) | (with_reducible refine Keeps.drewN ?_ _) | (with_reducible refine Keeps.drew ?_) | (with_reducible refine Keeps.alloc ?_ _) | (with_reducible refine Keeps.setCell ?_ ?_ _) | (with_reducible refine Keeps.trans ?_ (After.keeps _)) | (with_reducible refine Keeps.trans ?_ (by with_reducible assumption)) | go_size)); (first | done | fail)))).newPo HC.out HKs.out HM.out hk5 hg5 hr5; have cy := H.hands.cellv HYc.out; have co := H.hands.cellv HOc.out))
      | (go_simp; (go_at_call 99; refine (rmkPop_n _ qm HQm.out).mono ?_; rintro e w' ⟨gy, rfl, hk6, hg6, hr6⟩; have H := H.newRPo (hc1.out _) (hk1.out _) HM.out hk6 hg6 hr6; have cy := H.hands.cellv HYc.out; have co := H.hands.cellv HOc.out; have fo := H.hands.frozen (4 + i); have fy := H.hands.frozen (12 + i))))
    have tl := HTi.out.len
    have tl2 : Lens ps (os.set i (.pointer (some ⟨gp, 0, none⟩))) xs ys ls := ⟨tl.p, by simp [tl.o], tl.x, tl.y, tl.l⟩
    have tl3 : Lens ps (os.set i (.pointer (some ⟨gp, 0, none⟩))) xs (ys.set i (.pointer (some ⟨gy, 0, none⟩))) ls := ⟨tl.p, by simp [tl.o], tl.x, by simp [tl.y], tl.l⟩
    have H := (H.cell (x := .pointer (some ⟨gp, 0, none⟩)) (tl.set_o hi4)).cell (x := .pointer (some ⟨gy, 0, none⟩)) (tl2.set_y hi4)
    rw [List.set_set, List.set_set] at H
    generalize (w'.setCell ⟨hb, 4 + i, none⟩ (.pointer (some ⟨gp, 0, none⟩))).setCell ⟨hb, 12 + i, none⟩ (.pointer (some ⟨gy, 0, none⟩)) = W3 at H ⊢
    have co : W3.cell? ⟨hb, 4 + i, none⟩ = some (.pointer (some ⟨gp, 0, none⟩)) := H.hands.cellv (by rw [tl3.at_o hi4]; exact (set_at _ (by rw [tl.o]; exact hi4)).1)
    clear tl tl2 tl3 hk5 hk6 hr5 hr6
    go_wp2_with (go_at_call 49; refine (poDone_c (PA.poRep H (hc1.out _) (hk1.out _) rfl rfl)).mono ?_; rintro e w' ⟨rfl, rfl⟩; rw [show decide (3 ≤ (⟨0, 0, qm, 0, 0, []⟩ : Po).ph) = false from rfl])
    go_ret
    exact ⟨rfl, PInv.pop_end H HTi.out HC.out AA.out hcc hi4⟩)
end
end Go.Proofs.Ytcohhfndaogikaa
