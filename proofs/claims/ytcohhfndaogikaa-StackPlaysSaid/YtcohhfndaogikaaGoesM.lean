/- goes, walked: a Push begins. -/
import Derived.Test.YtcohhfndaogikaaGoesN
namespace Go.Proofs.Ytcohhfndaogikaa
set_option linter.unusedVariables false
set_option linter.unusedSimpArgs false
open Go Go.RowKit
set_option maxRecDepth 100000
set_option maxHeartbeats 2000000

section
variable {w wr w' : World} {m b S g gb R hb n : Nat} {l l2 : List Int} {cc c2 C : Int} {ps os xs ys ls : List Value} {cs : List PLoc} {ks : List PWk} {ws : List Wk} {L : List Int} {i t T : Nat} {c : PLoc} {k : Wk} {q : Int}
theorem goes_push (H : PA w wr m b S g gb R hb n l l cc cc ps os xs ys ls cs (wks ws)) (ti : Ties ps os xs ys ls cs) (A : StAll 0 2 n (n + 2) C l T L ws) (hc0 : 0 ≤ C) (hcc : cc ≤ C) (hC : C ≤ 1000) (hc : cs[i]? = some c) (hk : ws[i]? = some k) (hmd : k.md = .no) (hi4 : i < 4) (q0 : 0 ≤ q) (q1 : q < 64) (hv1 : q % 2 = 1) (hv2 : 1 ≤ k.has.length) (hn9 : n ≤ 9) :
    Calls Try.prog 54 #[.pointer (some ⟨hb, 0, none⟩), .pointer (some ⟨S, 0, none⟩), .pointer (some ⟨R, 0, none⟩), .int .i64 i, .int .i64 q] wr fun e w' => e = .returned (.bool true) ∧ PInv w w' m b S g gb R hb n (C + 1) := by
  have hks := pws_at hk
  have P := H.gang.rep i c _ hc hks
  have md := P.md
  have rmd := P.rmd
  have RH := P.has
  dsimp only at md rmd RH
  rw [hmd] at md rmd
  obtain ⟨hcp, hco, hcv⟩ := md
  obtain ⟨hcx, hcy, hcd⟩ := rmd
  have hkl : i < (wks ws).length := by simp [wks]; exact (List.getElem?_eq_some_iff.1 hk).1
  have hcl := (List.getElem?_eq_some_iff.1 hc).1
  have hnh : k.has.length ≤ 1000 := by
    have h1 := A.perm.length_eq
    rw [baseL_len, List.length_append] at h1
    obtain ⟨R0, h2, _⟩ := flat_set Wk.all ws i k hk
    have h3 := h2.length_eq
    rw [List.length_append] at h3
    have h4 : k.all.length = k.has.length + k.puts.length := by simp [Wk.all]
    omega
  have HPc : Hid ((handsOf ps os xs ys ls)[i]? = some (.pointer none)) := Lib.hid (by rw [ti.len.at_p hi4, ti.p i c hc, hcp]; rfl)
  have HOc : Hid ((handsOf ps os xs ys ls)[4 + i]? = some (.pointer none)) := Lib.hid (by rw [ti.len.at_o hi4, ti.o i c hc, hco]; rfl)
  obtain ⟨xv, hxv⟩ : ∃ v, xs[i]? = some v := ⟨_, List.getElem?_eq_getElem (by rw [ti.len.x]; exact hi4)⟩
  have HXc : Hid ((handsOf ps os xs ys ls)[8 + i]? = some xv) := Lib.hid (by rw [ti.len.at_x hi4, hxv])
  obtain ⟨hb0, caph, hcur, hvh, hh0, -⟩ := RH.formI (by rintro e; rw [e] at hv2; simp at hv2)
  have RC := RH.cut
  have hcp0 := RH
  rw [hvh] at RC hcp0
  have hcap := hcp0.capLe
  have HHc : Hid ((handsOf ps os xs ys ls)[16 + i]? = some (.slice (some ⟨hb0, 0, none⟩) k.has.length caph)) := Lib.hid (by rw [ti.len.at_l hi4, ti.l i c hc, hvh])
  have AA : Hid (∀ c : Nat, 1 ≤ c → c ≤ k.has.length → itemsB n (k.has.take c) ∧ StAll 0 2 n (n + 2) (C + 1) l T L (ws.set i ⟨.pu (pu0 (k.has.take c)), k.has.drop c, k.has.take c⟩)) := Lib.hid (fun c h1 h2 => A.newPu hk hmd hc0 c h1 h2)
  have HV := Lib.hid hvh
  have HRC := Lib.hid RC
  have HC := Lib.hid hc
  have HKs := Lib.hid hks
  have HM := Lib.hid hmd
  have HTi := Lib.hid ti
  have hk1 : Hid (∀ c' : PWk, ((wks ws).set i c')[i]? = some c') := Lib.hid (fun c' => List.getElem?_set_self hkl)
  have hc1 : Hid (∀ c' : PLoc, (cs.set i c')[i]? = some c') := Lib.hid (fun c' => List.getElem?_set_self hcl)
  have cp := H.hands.cellv HPc.out
  have co := H.hands.cellv HOc.out
  have ch := H.hands.cellv HHc.out
  have i0 : (0 : Int) ≤ (i : Int) := by omega
  have i4 : (i : Int) < 4 := by omega
  have h1 : (q % 2 == 1) = true := by simp [hv1]
  clear P hcp hco hcv hcx hcy hcd hc hks hk hmd ti A hkl hcl hxv hvh RH RC hcp0 hh0
  go_enter Try.func54, Try.ntmps54
  have tk : True := trivial
  go_wp2_with (first
    | (go_at_call 16; refine (number_e3 _ _ _ ?_ ?_).mono ?_; (focus omega); (focus omega); rintro e w' ⟨cn, rfl, hcn, rfl⟩; have hcn2 : cn < k.has.length := (by omega); have hb1 : (1 : Int) + cn ≤ (caph : Int) := (by omega); have hb2 : (0 : Int) ≤ 1 + cn := (by omega); have hb3 : ((1 : Int) + cn).toNat = 1 + cn := (by omega); have hb4 : 1 + cn ≤ caph := (by omega); have hb5 : (1 : Int) + cn ≤ (k.has.length : Int) := (by omega); obtain ⟨tk1, htk⟩ : ∃ t, k.has.take (1 + cn) = t := ⟨_, rfl⟩; have htl : tk1.length = 1 + cn := (by rw [← htk, List.length_take]; omega); have HTl := Lib.hid htl; have HTk := Lib.hid htk; have HTne : Hid (tk1 ≠ []) := Lib.hid (by rintro rfl; rw [List.length_nil] at htl; omega); clear htl htk)
    | (at_builtin; have t_ := tk; clear t_ tk; refine wpList_append_ints (B := w.heap.size) (v := .slice none 0 0) (xs := []) (ys := tk1) rfl _ _ rfl _ rfl rfl (Row.nil _ _ _) (by rw [← HTk.out]; exact (HRC.out.take (by omega)).src (by rw [HTk.out]; exact HTne.out)) (by have := HTl.out; rw [List.length_nil]; omega) H.keeps.size ?_; intro v1 w1 R1 U1 O1; rw [List.nil_append] at R1; obtain ⟨a1, c1', hv1, -⟩ := R1.reads; subst hv1; have H := H.later U1.keeps; have HRC1 := HRC.out.keeps U1.keeps)
    | (go_at_call 41; refine (mkPush_c tk1 a1 c1' R1.reads R1.capLe H.hS (by have h := (AA.out (1 + cn) (by omega) (by omega)).1; rw [HTk.out] at h; exact h) (by have := HTl.out; omega)).mono ?_; rintro e w' ⟨gp, v2, rfl, hk2, hg2, hr2⟩; have H := H.newPu HC.out HKs.out HM.out hk2 hg2 hr2; have HRC1 := HRC1.keeps hk2; have ch := H.hands.cellv HHc.out; have cp := H.hands.cellv HPc.out; have fp := H.hands.frozen i; have cx := H.hands.cellv HXc.out; have fx := H.hands.frozen (8 + i))
    | (go_at_call 57; refine (puDone_c (PA.puRep H (hc1.out _) (hk1.out _) rfl rfl)).mono ?_; rintro e w' ⟨rfl, rfl⟩; rw [show decide (4 ≤ (pu0 tk1).ph) = false from (by have h9 := HTl.out; unfold pu0 puPh; dsimp only; rw [if_neg (show ¬ tk1.length = 0 by omega)]; by_cases h8 : tk1.length = 1; (rw [if_pos h8]; rfl); (rw [if_neg h8]; rfl))]))
  have HSrc : ∀ {w2 : World}, Keeps w' w2 → Src w2 (.slice (some ⟨hb0, 0, none⟩) (1 + cn) caph) tk1 := fun hk => by
    have h := ((HRC1.keeps hk).take (k := 1 + cn) (by omega)).src (by rw [HTk.out]; exact HTne.out)
    rw [HTk.out] at h
    exact h
  go_region_law (go_simp; (go_at_call 98; refine (rmkPush_n tk1 (1 + cn) HTl.out.symm _ _ (HSrc (by ((repeat' (first | (with_reducible exact Keeps.refl _) | (with_reducible assumption) | (with_reducible refine Keeps.drewN ?_ _) | (with_reducible refine Keeps.drew ?_) | (with_reducible refine Keeps.alloc ?_ _) | (with_reducible refine Keeps.setCell ?_ ?_ _) | (with_reducible refine Keeps.trans ?_ (After.keeps _)) | (with_reducible refine Keeps.trans ?_ (by with_reducible assumption)) | go_size)); (first | done | fail)))) HTne.out (by have := HTl.out; omega)).mono ?_; rintro e w' ⟨gx, d2, rfl, hk6, hg6, hr6⟩; have H := (H.later (by ((repeat' (first | (with_reducible exact Keeps.refl _) | (with_reducible assumption) | (with_reducible refine Keeps.drewN ?_ _) | (with_reducible refine Keeps.drew ?_) | (with_reducible refine Keeps.alloc ?_ _) | (with_reducible refine Keeps.setCell ?_ ?_ _) | (with_reducible refine Keeps.trans ?_ (After.keeps _)) | (with_reducible refine Keeps.trans ?_ (by with_reducible assumption)) | go_size)); (first | done | fail)))).newRPu (hc1.out _) (hk1.out _) HM.out hk6 hg6 hr6; have HHn := H.hands; have HRC1 := HRC1.keeps (Keeps.trans (by ((repeat' (first | (with_reducible exact Keeps.refl _) | (with_reducible assumption) | (with_reducible refine Keeps.drewN ?_ _) | (with_reducible refine Keeps.drew ?_) | (with_reducible refine Keeps.alloc ?_ _) | (with_reducible refine Keeps.setCell ?_ ?_ _) | (with_reducible refine Keeps.trans ?_ (After.keeps _)) | (with_reducible refine Keeps.trans ?_ (by with_reducible assumption)) | go_size)); (first | done | fail))) hk6); have cp := H.hands.cellv HPc.out; have fp := H.hands.frozen i; have cx := H.hands.cellv HXc.out; have fx := H.hands.frozen (8 + i)))
  clear HSrc
  have tl := HTi.out.len
  have tl2 : Lens (ps.set i (.pointer (some ⟨gp, 0, none⟩))) os xs ys ls := ⟨by simp [tl.p], tl.o, tl.x, tl.y, tl.l⟩
  have tl3 : Lens (ps.set i (.pointer (some ⟨gp, 0, none⟩))) os (xs.set i (.pointer (some ⟨gx, 0, none⟩))) ys ls := ⟨by simp [tl.p], tl.o, by simp [tl.x], tl.y, tl.l⟩
  have H := (H.cell (x := .pointer (some ⟨gp, 0, none⟩)) (tl.set_p hi4)).cell (x := .pointer (some ⟨gx, 0, none⟩)) (tl2.set_x hi4)
  rw [List.set_set, List.set_set] at H
  have HRC2 : CutI ((w'.setCell ⟨hb, i, none⟩ (.pointer (some ⟨gp, 0, none⟩))).setCell ⟨hb, 8 + i, none⟩ (.pointer (some ⟨gx, 0, none⟩))) _ _ := HRC1.upd (S := [hb]) (((Upd.refl _ _).setCell (.inl (by simp)) _).setCell (.inl (by simp)) _) (fun g2 cur hg => by simp; exact Has.ne hg HHn (by decide))
  generalize (w'.setCell ⟨hb, i, none⟩ (.pointer (some ⟨gp, 0, none⟩))).setCell ⟨hb, 8 + i, none⟩ (.pointer (some ⟨gx, 0, none⟩)) = W3 at H HRC2 ⊢
  have HHc3 : Hid ((handsOf (ps.set i (.pointer (some ⟨gp, 0, none⟩))) os (xs.set i (.pointer (some ⟨gx, 0, none⟩))) ys ls)[16 + i]? = some (.slice (some ⟨hb0, 0, none⟩) k.has.length caph)) := Lib.hid (by rw [tl3.at_l hi4, ← tl.at_l hi4]; exact HHc.out)
  have ch := H.hands.cellv HHc3.out
  have szH := H.keeps.size
  go_wp2
  by_cases hcc2 : caph = 1 + cn
  · go_region_law (refine step_append_ints (B := W3.heap.size) (v := .slice none 0 0) (xs := []) (ys := k.has.drop (1 + cn)) (by rfl) _ _ (by rfl) _ (by rfl) (by rfl) (Row.nil _ _ _) (CutI.srcDrop (HRC2.keeps (Keeps.refl _).drew) (by omega) _ (fun h => absurd h (by omega)) (by omega)) (by rw [List.length_nil, List.length_drop]; omega) (Nat.le_refl _) ?_; intro v6 w6 R6 U6 O6; rw [List.nil_append] at R6; obtain ⟨a6, c6, hv6, -⟩ := R6.reads; generalize List.length _ = n6 at hv6; subst hv6; have H := H.newH (hc1.out _) (hk1.out _) ((Keeps.refl W3).drew.trans U6.keeps) R6; have ch := H.hands.cellv HHc3.out; have fh := H.hands.frozen (16 + i))
    rw [List.set_set, List.set_set] at H
    have H := (H.cell (x := .slice a6 n6 c6) (tl3.set_l hi4)).puts (hc1.out _) (hk1.out _) tk1
    rw [List.set_set] at H
    have A := (AA.out (1 + cn) (by omega) (by omega)).2
    rw [HTk.out] at A
    go_wp2
    go_ret
    exact ⟨rfl, PInv.push_end H HTi.out HC.out A hcc hi4⟩
  · go_region_law (refine step_append_ints (B := W3.heap.size) (v := .slice none 0 0) (xs := []) (ys := k.has.drop (1 + cn)) (by rfl) _ _ (by rfl) _ (by rfl) (by rfl) (Row.nil _ _ _) (CutI.srcDrop (HRC2.keeps (Keeps.refl _).drew) (by omega) _ (fun _ => by rw [Nat.zero_add]) (by omega)) (by rw [List.length_nil, List.length_drop]; omega) (Nat.le_refl _) ?_; intro v6 w6 R6 U6 O6; rw [List.nil_append] at R6; obtain ⟨a6, c6, hv6, -⟩ := R6.reads; generalize List.length _ = n6 at hv6; subst hv6; have H := H.newH (hc1.out _) (hk1.out _) ((Keeps.refl W3).drew.trans U6.keeps) R6; have ch := H.hands.cellv HHc3.out; have fh := H.hands.frozen (16 + i))
    rw [List.set_set, List.set_set] at H
    have H := (H.cell (x := .slice a6 n6 c6) (tl3.set_l hi4)).puts (hc1.out _) (hk1.out _) tk1
    rw [List.set_set] at H
    have A := (AA.out (1 + cn) (by omega) (by omega)).2
    rw [HTk.out] at A
    go_wp2
    go_ret
    exact ⟨rfl, PInv.push_end H HTi.out HC.out A hcc hi4⟩
end
end Go.Proofs.Ytcohhfndaogikaa
