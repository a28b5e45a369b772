/- RootsPlay's begins, walked: a Look begins. -/
import Derived.Test.YtaecapjicphdkaaGreatMg40
import Derived.Test.YtaecapjicphdkaaGreatMg18
import Derived.Deep.RegionHeld3
import Derived.Deep.RegionLaw
import Derived.Deep.QuietTactic
import Derived.BigQuiet
import Derived.Test.YtaecapjicphdkaaGreatMg37
import Derived.Test.YtaecapjicphdkaaGreatMg38
import Derived.Test.YtaecapjicphdkaaGreatMg39
import Derived.Test.YtaecapjicphdkaaGreatMg41
namespace Go.Proofs.YtaecapjicphdkaaGreat
set_option linter.unusedVariables false
set_option linter.unusedSimpArgs false
open Go Go.RowKit
set_option maxRecDepth 100000
set_option maxHeartbeats 4000000

section
variable {w wr w' : World} {m b R S W g gb Sp hb n : Nat} {l : List Int} {cc C : Int} {H : List Value} {cs : List HLoc} {ws : List HWs} {i : Nat} {c : HLoc} {k : HWs}
theorem begins_lk (v : Int) (h : HA w wr m b R S W g gb Sp hb n l l cc cc H cs (hks ws)) (ti : HTies H cs ws) (A : HAll n C l ws) (c0 : 0 ≤ cc) (hcc : cc ≤ C) (hC : C ≤ 1000) (hc : cs[i]? = some c) (hk : ws[i]? = some k) (hmd : k.md = .no) (hi4 : i < 4) (n1 : 1 ≤ n) (n4 : n ≤ 4) (v0 : 0 ≤ v) (v1 : v < 240) (hu : 4 ≤ v % 5) (hemp : k.has = []) :
    Calls Tryz.prog 66 #[.pointer (some ⟨hb, 0, none⟩), .pointer (some ⟨R, 0, none⟩), .pointer (some ⟨W, 0, none⟩), .int .i64 i, .int .i64 v] wr fun e w' => e = .returned (.bool true) ∧ HInv w w' m b R S W g gb Sp hb n (C + 1) := by
  have hks := hks_at hk
  have P := h.gang.rep i c _ hc hks
  have pm := P.md
  have rm := P.rmd
  have rH := P.has
  dsimp only at pm rm rH
  rw [hmd] at pm rm
  have pm : c.p = [] := pm
  have rm : c.x = [] := rm
  have T := ti i c k hi4 hc hk
  rw [hmd] at T
  obtain ⟨ah, caph, hvh, -⟩ := rH.reads
  obtain ⟨-, hit, hln⟩ := A.md i k hk
  obtain ⟨Pl, E, hW⟩ := h.hW
  have hcl := (List.getElem?_eq_some_iff.1 hc).1
  have hwl := (List.getElem?_eq_some_iff.1 hk).1
  have hkl : i < (Go.Proofs.YtaecapjicphdkaaGreat.hks ws).length := by simp [Go.Proofs.YtaecapjicphdkaaGreat.hks]; exact hwl
  have cH : Hid (H.toArray[32 + i]? = some (.slice ah k.has.length caph)) := Lib.hid (by have := T.h; rw [hvh] at this; simpa using this)
  have hHl := h.hlen
  have HHl := Lib.hid hHl
  have i0 : (0 : Int) ≤ (i : Int) := by omega
  have i4 : (i : Int) < 4 := by omega
  obtain ⟨a5, ha5⟩ : ∃ a, v / 5 = a := ⟨_, rfl⟩
  obtain ⟨sn, hsn⟩ := Int.eq_ofNat_of_zero_le (show 0 ≤ v / 5 % 4 by omega)
  rw [ha5] at hsn
  obtain ⟨a20, ha20⟩ : ∃ a, v / 20 = a := ⟨_, rfl⟩
  obtain ⟨r6, hr6⟩ : ∃ a, a20 % 6 = a := ⟨_, rfl⟩
  obtain ⟨p2, hp2⟩ : ∃ a, v % 2 = a := ⟨_, rfl⟩
  obtain ⟨u5, hu5⟩ : ∃ a, v % 5 = a := ⟨_, rfl⟩
  have hsn4 : sn < 4 := by omega
  have hr0 : 0 ≤ r6 := by omega
  have hr1 : r6 < 6 := by omega
  have hp0 : p2 = 0 ∨ p2 = 1 := by omega
  have hu0 : 0 ≤ u5 := by omega
  have hu1 : u5 < 5 := by omega
  have e1 : IntKind.i64.wrap (v.tdiv 5) = a5 := by rw [Int.tdiv_eq_ediv_of_nonneg v0, ha5]; exact wrapI_ok _ (by omega) (by omega)
  have e3 : IntKind.i64.wrap (v.tdiv 20) = a20 := by rw [Int.tdiv_eq_ediv_of_nonneg v0, ha20]; exact wrapI_ok _ (by omega) (by omega)
  have hcd := by have := hu; rw [hu5] at this; exact this
  have ha50 : 0 ≤ a5 := by omega
  have ha200 : 0 ≤ a20 := by omega
  have e7 : IntKind.i64.wrap (1 + r6) = 1 + r6 := wrapI_ok _ (by omega) (by omega)
  clear ha5 ha20
  have cZ : Hid (H.toArray[8 + i]? = some (.pointer none)) := Lib.hid (by have := T.p 2 (by omega); simpa [hkind] using this)
  have cz := h.hands.cellv cZ.out
  have hX0 := h.hands.cell (24 + i)
  obtain ⟨vx, hvx⟩ : ∃ vx, H.toArray[24 + i]? = some vx := ⟨_, Array.getElem?_eq_getElem (by simp; omega)⟩
  have HVx := Lib.hid hvx
  rw [hvx] at hX0
  have hfr := h.hands.frozen (8 + i)
  have hfx := h.hands.frozen (24 + i)
  have hl0 : k.has.length = 0 := by rw [hemp]; rfl
  rw [hl0] at cH
  have ch := h.hands.cellv cH.out
  clear hvx hl0 hemp
  have hWf := hW
  have FX_ := (hWf).facts; simp only [blockFacts, listFacts, cellsAt, Nat.reduceAdd, and_true, true_and, and_assoc, rwOf] at FX_
  have hn0 : (0 : Int) ≤ (n : Int) := by omega
  have hll := A.ok.len
  have RT : Hid (sn < n → ∀ W2, Keeps wr W2 → Calls Tryz.prog 109 #[.pointer (some ⟨W, 0, none⟩), .int .i64 sn] W2 fun e w' => e = .returned (rootV (l.getD (4 + sn) 0)) ∧ Keeps W2 w') := Lib.hid (fun hs W2 hk2 => by
    have ho : l[4 + sn]? = some (l.getD (4 + sn) 0) := getD_some (by omega)
    have hwd := A.ok.words _ (List.mem_of_getElem? ho)
    refine rroot_c (hW.keeps hk2) (h.rmem.keeps hk2) ?_ ho hwd.1 hwd.2
    have := (rtAt n n1 n4).at_ (sn : Int) (by omega) (by omega)
    simpa using this)
  have HC := Lib.hid hc
  have HK := Lib.hid hk
  have HMd := Lib.hid hmd
  have HKs := Lib.hid hks
  have HTi := Lib.hid ti
  have HAl := Lib.hid A
  have HPm := Lib.hid pm
  have HRm := Lib.hid rm
  have HIt := Lib.hid hit
  have HLn := Lib.hid hln
  have HVh := Lib.hid hvh
  have HcL := Lib.hid hcl
  have HkL := Lib.hid hkl
  have hsc : (((sn : Int) < n) ∧ sn < n ∧ p2 = 0) ∨ (((sn : Int) < n) ∧ sn < n ∧ p2 = 1) ∨ (¬ (sn : Int) < n) := by omega
  generalize hro : l.getD (4 + sn) 0 = ro at *
  have HRo := Lib.hid hro
  clear hro hc hk hmd hks ti A pm rm hit hln hvh hcl hwl hkl T P rH hHl hp0 hll
  have hcd1 : ¬ u5 < 2 := by omega
  have hcd2 : ¬ u5 < 4 := by omega
  clear hu
  have i0s : (0 : Int) ≤ (sn : Int) := by omega
  rcases hsc with ⟨hsI, hs, rfl⟩ | ⟨hsI, hs, rfl⟩ | hsI
  · go_enter Tryz.func66, Tryz.ntmps66
    go_upto_region 22 with (first
      | (go_at_call 109; refine (RT.out hs _ (Keeps.refl _)).mono ?_; rintro e w7 ⟨rfl, hk7⟩; have h := h.later hk7; have ch := h.hands.cellv cH.out; obtain ⟨Pl2, E2, hW2⟩ := h.hW; have FX_ := (hW2).facts; simp only [blockFacts, listFacts, cellsAt, Nat.reduceAdd, and_true, true_and, and_assoc, rwOf] at FX_)
      | (go_at_call 12; refine (mkLook_c (sn : Int) _ (h.later (by ((repeat' (first | (with_reducible exact Keeps.refl _) | (with_reducible assumption) | (with_reducible refine Keeps.drewN ?_ _) | (with_reducible refine Keeps.drew ?_) | (with_reducible refine Keeps.alloc ?_ _) | (with_reducible refine Keeps.setCell ?_ ?_ _) | (with_reducible refine Keeps.trans ?_ (After.keeps _)) | (with_reducible refine Keeps.trans ?_ (by with_reducible assumption)) | go_size)); (first | done | fail)))).hR i0s hsI).mono ?_; rintro e w5 ⟨y, rfl, hk5, hy, hx⟩; have h := (h.later (by ((repeat' (first | (with_reducible exact Keeps.refl _) | (with_reducible assumption) | (with_reducible refine Keeps.drewN ?_ _) | (with_reducible refine Keeps.drew ?_) | (with_reducible refine Keeps.alloc ?_ _) | (with_reducible refine Keeps.setCell ?_ ?_ _) | (with_reducible refine Keeps.trans ?_ (After.keeps _)) | (with_reducible refine Keeps.trans ?_ (by with_reducible assumption)) | go_size)); (first | done | fail)))).newP HC.out HKs.out hk5 (f := [y]) (md := (.lk sn (ro / 4294967296))) ⟨y, rfl, hx⟩ (by simpa using hy); obtain ⟨Pl2, E2, hW2⟩ := h.hW; have FX_ := (hW2).facts; simp only [blockFacts, listFacts, cellsAt, Nat.reduceAdd, and_true, true_and, and_assoc, rwOf] at FX_))
    have cz := h.hands.cellv cZ.out
    have hX0 := (h.hands.cell (24 + i)).trans HVx.out
    have hfr := h.hands.frozen (8 + i)
    have hfx := h.hands.frozen (24 + i)
    have hul := h.hands.lt
    have chA : ∀ o : Obj, (w5.alloc o).cell? ⟨hb, 24 + i, none⟩ = some vx := fun o => ((h.hands.alloc o).cell (24 + i)).trans HVx.out
    have chB : ∀ o : Obj, (w5.alloc o).cell? ⟨hb, 8 + i, none⟩ = some (.pointer none) := fun o => (h.hands.alloc o).cellv cZ.out
    have cfA : ∀ o : Obj, (w5.alloc o).frozen? ⟨hb, 24 + i, none⟩ = false := fun o => (h.hands.alloc o).frozen _
    have cfB : ∀ o : Obj, (w5.alloc o).frozen? ⟨hb, 8 + i, none⟩ = false := fun o => (h.hands.alloc o).frozen _
    go_region_law (fail)
    all_goals (
      go_upto_region 23 with fail
      refine wp_named' (fun W9 hW9 => ?_)
      have h := h.newR (List.getElem?_set_self HcL.out) (List.getElem?_set_self HkL.out) ((Keeps.refl w5).alloc (.cells (rlookOf W sn (ro / 4294967296) 0 0 false) 131)) (f := [w5.heap.size]) (md := .lk sn (ro / 4294967296)) ⟨_, rfl, Has.new _ _ _⟩ (by simp)
      simp only [List.set_set] at h
      have h3 := ((h.cell (8 + i) (.pointer (some ⟨y, 0, none⟩))).cell (24 + i) (.pointer (some ⟨w5.heap.size, 0, none⟩))).later (Keeps.refl _).drew
      have F := (HInv.begin_ (a := 2) (p' := [y]) (x' := [w5.heap.size]) (md' := (.lk sn (ro / 4294967296))) (v1 := .pointer (some ⟨y, 0, none⟩)) (v2 := .pointer (some ⟨w5.heap.size, 0, none⟩)) h HTi.out HAl.out HC.out HK.out HMd.out hi4 (by omega) rfl rfl rfl ⟨i0s, hsI⟩ hcc).later (Keeps.refl _).drew
      simp only [Nat.reduceMul, Nat.reduceAdd] at F
      have e9 : W9 = (((w5.alloc (.cells (rlookOf W sn (ro / 4294967296) 0 0 false) 131)).setCell ⟨hb, 8 + i, none⟩ (.pointer (some ⟨y, 0, none⟩))).setCell ⟨hb, 24 + i, none⟩ (.pointer (some ⟨w5.heap.size, 0, none⟩))).drew := by
        rw [hW9, World.setCell_alloc_past _ _ _ _ hul, World.setCell_alloc_past _ _ _ _ (by simpa using hul)]
      rw [← e9] at h3 F
      clear hW9 e9
      obtain ⟨y', ep, hcr⟩ := (h3.gang.rep i _ _ (List.getElem?_set_self HcL.out) (List.getElem?_set_self HkL.out)).md
      obtain rfl : y = y' := by have e9 := congrArg List.head? ep; simp at e9; exact e9
      go_wp2_with ((go_at_call 22; refine (lkDone_c (o := some 42) hcr).mono ?_; rintro e w' ⟨rfl, rfl⟩; rw [show (some 42 : Option Nat).isNone = false from rfl]))
      go_ret
      exact ⟨rfl, F⟩)
  · go_enter Tryz.func66, Tryz.ntmps66
    go_upto_region 22 with (first
      | (go_at_call 109; refine (RT.out hs _ (Keeps.refl _)).mono ?_; rintro e w7 ⟨rfl, hk7⟩; have h := h.later hk7; have ch := h.hands.cellv cH.out; obtain ⟨Pl2, E2, hW2⟩ := h.hW; have FX_ := (hW2).facts; simp only [blockFacts, listFacts, cellsAt, Nat.reduceAdd, and_true, true_and, and_assoc, rwOf] at FX_)
      | (go_at_call 12; refine (mkLook_c (sn : Int) _ (h.later (by ((repeat' (first | (with_reducible exact Keeps.refl _) | (with_reducible assumption) | (with_reducible refine Keeps.drewN ?_ _) | (with_reducible refine Keeps.drew ?_) | (with_reducible refine Keeps.alloc ?_ _) | (with_reducible refine Keeps.setCell ?_ ?_ _) | (with_reducible refine Keeps.trans ?_ (After.keeps _)) | (with_reducible refine Keeps.trans ?_ (by with_reducible assumption)) | go_size)); (first | done | fail)))).hR i0s hsI).mono ?_; rintro e w5 ⟨y, rfl, hk5, hy, hx⟩; have h := (h.later (by ((repeat' (first | (with_reducible exact Keeps.refl _) | (with_reducible assumption) | (with_reducible refine Keeps.drewN ?_ _) | (with_reducible refine Keeps.drew ?_) | (with_reducible refine Keeps.alloc ?_ _) | (with_reducible refine Keeps.setCell ?_ ?_ _) | (with_reducible refine Keeps.trans ?_ (After.keeps _)) | (with_reducible refine Keeps.trans ?_ (by with_reducible assumption)) | go_size)); (first | done | fail)))).newP HC.out HKs.out hk5 (f := [y]) (md := (.lk sn (1 + r6))) ⟨y, rfl, hx⟩ (by simpa using hy); obtain ⟨Pl2, E2, hW2⟩ := h.hW; have FX_ := (hW2).facts; simp only [blockFacts, listFacts, cellsAt, Nat.reduceAdd, and_true, true_and, and_assoc, rwOf] at FX_))
    have cz := h.hands.cellv cZ.out
    have hX0 := (h.hands.cell (24 + i)).trans HVx.out
    have hfr := h.hands.frozen (8 + i)
    have hfx := h.hands.frozen (24 + i)
    have hul := h.hands.lt
    have chA : ∀ o : Obj, (w5.alloc o).cell? ⟨hb, 24 + i, none⟩ = some vx := fun o => ((h.hands.alloc o).cell (24 + i)).trans HVx.out
    have chB : ∀ o : Obj, (w5.alloc o).cell? ⟨hb, 8 + i, none⟩ = some (.pointer none) := fun o => (h.hands.alloc o).cellv cZ.out
    have cfA : ∀ o : Obj, (w5.alloc o).frozen? ⟨hb, 24 + i, none⟩ = false := fun o => (h.hands.alloc o).frozen _
    have cfB : ∀ o : Obj, (w5.alloc o).frozen? ⟨hb, 8 + i, none⟩ = false := fun o => (h.hands.alloc o).frozen _
    go_region_law (fail)
    all_goals (
      go_upto_region 23 with fail
      refine wp_named' (fun W9 hW9 => ?_)
      have h := h.newR (List.getElem?_set_self HcL.out) (List.getElem?_set_self HkL.out) ((Keeps.refl w5).alloc (.cells (rlookOf W sn (1 + r6) 0 0 false) 131)) (f := [w5.heap.size]) (md := .lk sn (1 + r6)) ⟨_, rfl, Has.new _ _ _⟩ (by simp)
      simp only [List.set_set] at h
      have h3 := ((h.cell (8 + i) (.pointer (some ⟨y, 0, none⟩))).cell (24 + i) (.pointer (some ⟨w5.heap.size, 0, none⟩))).later (Keeps.refl _).drew
      have F := (HInv.begin_ (a := 2) (p' := [y]) (x' := [w5.heap.size]) (md' := (.lk sn (1 + r6))) (v1 := .pointer (some ⟨y, 0, none⟩)) (v2 := .pointer (some ⟨w5.heap.size, 0, none⟩)) h HTi.out HAl.out HC.out HK.out HMd.out hi4 (by omega) rfl rfl rfl ⟨i0s, hsI⟩ hcc).later (Keeps.refl _).drew
      simp only [Nat.reduceMul, Nat.reduceAdd] at F
      have e9 : W9 = (((w5.alloc (.cells (rlookOf W sn (1 + r6) 0 0 false) 131)).setCell ⟨hb, 8 + i, none⟩ (.pointer (some ⟨y, 0, none⟩))).setCell ⟨hb, 24 + i, none⟩ (.pointer (some ⟨w5.heap.size, 0, none⟩))).drew := by
        rw [hW9, World.setCell_alloc_past _ _ _ _ hul, World.setCell_alloc_past _ _ _ _ (by simpa using hul)]
      rw [← e9] at h3 F
      clear hW9 e9
      obtain ⟨y', ep, hcr⟩ := (h3.gang.rep i _ _ (List.getElem?_set_self HcL.out) (List.getElem?_set_self HkL.out)).md
      obtain rfl : y = y' := by have e9 := congrArg List.head? ep; simp at e9; exact e9
      go_wp2_with ((go_at_call 22; refine (lkDone_c (o := some 42) hcr).mono ?_; rintro e w' ⟨rfl, rfl⟩; rw [show (some 42 : Option Nat).isNone = false from rfl]))
      go_ret
      exact ⟨rfl, F⟩)
  · have hnn : (n : Int) ≤ sn := by omega
    go_enter Tryz.func66, Tryz.ntmps66
    go_wp2_with (go_at_call 12; refine (mkLook_no (sn : Int) _ h.hR (.inr hnn)).mono ?_; rintro e w5 ⟨rfl, rfl⟩)
    go_ret
    exact ⟨rfl, HInv.rest h HTi.out HAl.out hcc⟩
end
end Go.Proofs.YtaecapjicphdkaaGreat

/- RootsPlay's begins, walked: a Push begins. -/
namespace Go.Proofs.YtaecapjicphdkaaGreat
set_option linter.unusedVariables false
set_option linter.unusedSimpArgs false
open Go Go.RowKit
set_option maxRecDepth 100000
set_option maxHeartbeats 4000000

section
variable {w wr w' : World} {m b R S W g gb Sp hb n : Nat} {l : List Int} {cc C : Int} {H : List Value} {cs : List HLoc} {ws : List HWs} {i : Nat} {c : HLoc} {k : HWs}
theorem begins_pu (v : Int) (h : HA w wr m b R S W g gb Sp hb n l l cc cc H cs (hks ws)) (ti : HTies H cs ws) (A : HAll n C l ws) (c0 : 0 ≤ cc) (hcc : cc ≤ C) (hC : C ≤ 1000) (hc : cs[i]? = some c) (hk : ws[i]? = some k) (hmd : k.md = .no) (hi4 : i < 4) (n1 : 1 ≤ n) (n4 : n ≤ 4) (v0 : 0 ≤ v) (v1 : v < 240) (hu : 2 ≤ v % 5) (hne : k.has ≠ []) :
    Calls Tryz.prog 66 #[.pointer (some ⟨hb, 0, none⟩), .pointer (some ⟨R, 0, none⟩), .pointer (some ⟨W, 0, none⟩), .int .i64 i, .int .i64 v] wr fun e w' => e = .returned (.bool true) ∧ HInv w w' m b R S W g gb Sp hb n (C + 1) := by
  have hks := hks_at hk
  have P := h.gang.rep i c _ hc hks
  have pm := P.md
  have rm := P.rmd
  have rH := P.has
  dsimp only at pm rm rH
  rw [hmd] at pm rm
  have pm : c.p = [] := pm
  have rm : c.x = [] := rm
  have T := ti i c k hi4 hc hk
  rw [hmd] at T
  obtain ⟨ah, caph, hvh, -⟩ := rH.reads
  obtain ⟨-, hit, hln⟩ := A.md i k hk
  obtain ⟨Pl, E, hW⟩ := h.hW
  have hcl := (List.getElem?_eq_some_iff.1 hc).1
  have hwl := (List.getElem?_eq_some_iff.1 hk).1
  have hkl : i < (Go.Proofs.YtaecapjicphdkaaGreat.hks ws).length := by simp [Go.Proofs.YtaecapjicphdkaaGreat.hks]; exact hwl
  have cH : Hid (H.toArray[32 + i]? = some (.slice ah k.has.length caph)) := Lib.hid (by have := T.h; rw [hvh] at this; simpa using this)
  have hHl := h.hlen
  have HHl := Lib.hid hHl
  have i0 : (0 : Int) ≤ (i : Int) := by omega
  have i4 : (i : Int) < 4 := by omega
  obtain ⟨a5, ha5⟩ : ∃ a, v / 5 = a := ⟨_, rfl⟩
  obtain ⟨sn, hsn⟩ := Int.eq_ofNat_of_zero_le (show 0 ≤ v / 5 % 4 by omega)
  rw [ha5] at hsn
  obtain ⟨a20, ha20⟩ : ∃ a, v / 20 = a := ⟨_, rfl⟩
  obtain ⟨r6, hr6⟩ : ∃ a, a20 % 6 = a := ⟨_, rfl⟩
  obtain ⟨p2, hp2⟩ : ∃ a, v % 2 = a := ⟨_, rfl⟩
  obtain ⟨u5, hu5⟩ : ∃ a, v % 5 = a := ⟨_, rfl⟩
  have hsn4 : sn < 4 := by omega
  have hr0 : 0 ≤ r6 := by omega
  have hr1 : r6 < 6 := by omega
  have hp0 : p2 = 0 ∨ p2 = 1 := by omega
  have hu0 : 0 ≤ u5 := by omega
  have hu1 : u5 < 5 := by omega
  have e1 : IntKind.i64.wrap (v.tdiv 5) = a5 := by rw [Int.tdiv_eq_ediv_of_nonneg v0, ha5]; exact wrapI_ok _ (by omega) (by omega)
  have e3 : IntKind.i64.wrap (v.tdiv 20) = a20 := by rw [Int.tdiv_eq_ediv_of_nonneg v0, ha20]; exact wrapI_ok _ (by omega) (by omega)
  have hcd := by have := hu; rw [hu5] at this; exact this
  have ha50 : 0 ≤ a5 := by omega
  have ha200 : 0 ≤ a20 := by omega
  have e7 : IntKind.i64.wrap (1 + r6) = 1 + r6 := wrapI_ok _ (by omega) (by omega)
  clear ha5 ha20
  obtain ⟨z, zs, hz⟩ := List.exists_cons_of_ne_nil hne
  obtain ⟨lb, cap2, cur, hvh2, hh0, hcur⟩ := rH.formI (by rw [hz]; simp)
  have rH2 := rH
  have RC := rH.cut
  rw [hvh] at hvh2 rH2 RC
  injection hvh2 with q1 q2 q3
  subst q1 q3
  have hcap := rH2.capLe
  have hkl1 : k.has.length = zs.length + 1 := by rw [hz]; rfl
  have hit' := hit
  rw [hz] at hit'
  have hzb := hit' z (by simp)
  have HZs : Hid (∀ y ∈ zs, 0 ≤ y ∧ y < n) := Lib.hid (fun y hy => hit' y (by simp [hy]))
  have HDr : Hid (k.has.drop 1 = zs) := Lib.hid (by rw [hz]; rfl)
  have hce : cur[0]? = some (.int .i64 z) := by have := hcur 0 (by omega); rw [hz] at this; exact this
  have cell0 := hh0.cellv hce
  have HCe := Lib.hid hce
  have hl0 : (0 : Int) < (k.has.length : Int) := by omega
  have hl1 : (1 : Int) ≤ (k.has.length : Int) := by omega
  have hl2 : (k.has.length : Int) ≤ 2000 := by omega
  have cpI : (k.has.length : Int) ≤ (caph : Int) := by omega
  have cZ : Hid (H.toArray[12 + i]? = some (.pointer none)) := Lib.hid (by have := T.p 3 (by omega); simpa [hkind] using this)
  obtain ⟨vx, hvx⟩ : ∃ vx, H.toArray[28 + i]? = some vx := ⟨_, Array.getElem?_eq_getElem (by simp; omega)⟩
  have HVx := Lib.hid hvx
  have cZ2 : Hid (∀ v, (H.set (32 + i) v).toArray[12 + i]? = some (.pointer none)) := Lib.hid (fun v => by have := cZ.out; simp at this ⊢; exact this)
  have HVx2 : Hid (∀ v, (H.set (32 + i) v).toArray[28 + i]? = some vx) := Lib.hid (fun v => by have := HVx.out; simp at this ⊢; exact this)
  have ch := h.hands.cellv cH.out
  have fh := h.hands.frozen (32 + i)
  have HZl : Hid ((zs.length : Int) ≤ C + 1) := Lib.hid (by omega)
  obtain ⟨z0, z1⟩ := hzb
  clear hkl1 hvx hne hit' hcur hce hz rH2
  have hWf := hW
  have FX_ := (hWf).facts; simp only [blockFacts, listFacts, cellsAt, Nat.reduceAdd, and_true, true_and, and_assoc, rwOf] at FX_
  have hn0 : (0 : Int) ≤ (n : Int) := by omega
  have hll := A.ok.len
  have RT : Hid (sn < n → ∀ W2, Keeps wr W2 → Calls Tryz.prog 109 #[.pointer (some ⟨W, 0, none⟩), .int .i64 sn] W2 fun e w' => e = .returned (rootV (l.getD (4 + sn) 0)) ∧ Keeps W2 w') := Lib.hid (fun hs W2 hk2 => by
    have ho : l[4 + sn]? = some (l.getD (4 + sn) 0) := getD_some (by omega)
    have hwd := A.ok.words _ (List.mem_of_getElem? ho)
    refine rroot_c (hW.keeps hk2) (h.rmem.keeps hk2) ?_ ho hwd.1 hwd.2
    have := (rtAt n n1 n4).at_ (sn : Int) (by omega) (by omega)
    simpa using this)
  have HC := Lib.hid hc
  have HK := Lib.hid hk
  have HMd := Lib.hid hmd
  have HKs := Lib.hid hks
  have HTi := Lib.hid ti
  have HAl := Lib.hid A
  have HPm := Lib.hid pm
  have HRm := Lib.hid rm
  have HIt := Lib.hid hit
  have HLn := Lib.hid hln
  have HVh := Lib.hid hvh
  have HcL := Lib.hid hcl
  have HkL := Lib.hid hkl
  have hsc : (((sn : Int) < n) ∧ sn < n ∧ p2 = 0) ∨ (((sn : Int) < n) ∧ sn < n ∧ p2 = 1) ∨ (¬ (sn : Int) < n) := by omega
  generalize hro : l.getD (4 + sn) 0 = ro at *
  have HRo := Lib.hid hro
  clear hro hc hk hmd hks ti A pm rm hit hln hvh hcl hwl hkl T P rH hHl hp0 hll
  have hcd1 : ¬ u5 < 2 := by omega
  clear hu
  rcases hsc with ⟨hsI, hs, rfl⟩ | ⟨hsI, hs, rfl⟩ | hsI
  all_goals (
    go_enter Tryz.func66, Tryz.ntmps66
    go_upto_region 9 with (go_at_call 109; refine (RT.out hs _ (Keeps.refl _)).mono ?_; rintro e w7 ⟨rfl, hk7⟩; have h := h.later hk7; have ch := h.hands.cellv cH.out; have fh := h.hands.frozen (32 + i); have hh0 := hh0.keeps hk7; have cell0 := hh0.cellv HCe.out; have RC := RC.keeps hk7)
    by_cases hcc2 : caph = 1
    · go_region_law (refine step_append_ints (B := w.heap.size) (v := .slice none 0 0) (xs := []) (ys := k.has.drop 1) (by rfl) _ _ (by rfl) _ (by rfl) (by rfl) (Row.nil _ _ _) (CutI.srcDrop (RC.keeps (Keeps.refl _).drew) (by omega) _ (fun h => absurd h (by omega)) (by omega)) (by rw [List.length_nil, List.length_drop]; omega) h.keeps.size ?_; intro v6 w6 R6 U6 O6; rw [List.nil_append, HDr.out] at R6; have h := (h.later (Keeps.refl _).drew).stepH HC.out HKs.out U6 (by simp) R6 (fun y hy => by rcases O6 y hy with o | o; (simp at o); (right; rw [o]; exact Nat.le_refl _)); obtain ⟨a6, c6, hv6, -⟩ := R6.reads; generalize List.length _ = n6 at hv6; subst hv6; have ch := h.hands.cellv cH.out; have fh := h.hands.frozen (32 + i))
      have h := h.cell (32 + i) (.slice a6 n6 c6)
      generalize w6.setCell ⟨hb, 32 + i, none⟩ (.slice a6 n6 c6) = W5 at *
      go_upto_region 11 with (go_at_call 14; refine (back_c z h.hR h.hS z0 z1).mono ?_; rintro e w8 ⟨gp, vp, rfl, hk8, hg8, hr8⟩; have hWs := h.keeps.size; have h := h.newP (List.getElem?_set_self HcL.out) (List.getElem?_set_self HkL.out) hk8 (f := gp :: ownB vp) (md := .pu ⟨1, 0, [z], 0, 0⟩) ⟨gp, vp, rfl, ⟨hr8.has, hr8.row.mono (by omega)⟩⟩ (fun y hy => by rcases List.mem_cons.1 hy with e | hy; (rw [e]; exact hg8); (have := (hr8.row.own y hy).1; omega)))
      simp only [List.set_set] at h
      obtain ⟨Pl2, E2, hW2⟩ := h.hW
      have FX_ := (hW2).facts; simp only [blockFacts, listFacts, cellsAt, Nat.reduceAdd, and_true, true_and, and_assoc, rwOf] at FX_
      have cz := h.hands.cellv (cZ2.out _)
      have hX0 := (h.hands.cell (28 + i)).trans (HVx2.out _)
      have hfr := h.hands.frozen (12 + i)
      have hfx := h.hands.frozen (28 + i)
      have hul := h.hands.lt
      have cwA : ∀ o : Obj, (w8.alloc o).cell? ⟨W, 8, none⟩ = some (.pointer (some ⟨Sp, 0, none⟩)) := fun o => (hW2.alloc o).cell 8
      go_region_law (go_simp; go_at_call 111; refine (rmkPush_c [z] _ 1 (Has.src (by first | exact Has.new _ _ _ | exact Has.drew (Has.new _ _ _)) 1) (by simp) (by simp)).mono ?_; rintro e w9 ⟨x, vd, rfl, hk9, hx9, hd9, hrow9⟩; have hWs9 := h.keeps.size; have hW8 : w.heap.size ≤ w8.heap.size := hWs9; have h := (h.later (by ((repeat' (first | (with_reducible exact Keeps.refl _) | (with_reducible assumption) | (with_reducible refine Keeps.drewN ?_ _) | (with_reducible refine Keeps.drew ?_) | (with_reducible refine Keeps.alloc ?_ _) | (with_reducible refine Keeps.setCell ?_ ?_ _) | (with_reducible refine Keeps.trans ?_ (After.keeps _)) | (with_reducible refine Keeps.trans ?_ (by with_reducible assumption)) | go_size)); (first | done | fail)))).newR (List.getElem?_set_self HcL.out) (List.getElem?_set_self HkL.out) hk9 (f := x :: ownB vd) (md := .pu ⟨1, 0, [z], 0, 0⟩) ⟨x, vd, rfl, ⟨Has.congr hd9 (by simp [rpuAt]), hrow9.mono (by first | (simp; omega) | (have := hWs9; simp at *; omega))⟩⟩ (fun y hy => by rcases List.mem_cons.1 hy with e | hy; (rw [e]; exact hx9); (exact (hrow9.own y hy).1)); have cz := h.hands.cellv (cZ2.out _); have hX0 := (h.hands.cell (28 + i)).trans (HVx2.out _); have hfr := h.hands.frozen (12 + i); have hfx := h.hands.frozen (28 + i))
      all_goals (
        simp only [List.set_set] at h
        have F := HInv.beginH (a := 3) (p' := gp :: ownB vp) (x' := x :: ownB vd) (md' := .pu ⟨1, 0, [z], 0, 0⟩) (v1 := .pointer (some ⟨gp, 0, none⟩)) (v2 := .pointer (some ⟨x, 0, none⟩)) h HHl.out HTi.out HAl.out HC.out HK.out HMd.out hi4 (by omega) rfl rfl rfl ⟨hpu_inv n (by omega) z0 z1, show (1 : Nat) < 4 by decide⟩ HZs.out HZl.out hcc
        have h3 := (h.cell (12 + i) (.pointer (some ⟨gp, 0, none⟩))).cell (28 + i) (.pointer (some ⟨x, 0, none⟩))
        obtain ⟨y', vy, ep, hcr⟩ := (h3.gang.rep i _ _ (List.getElem?_set_self HcL.out) (List.getElem?_set_self HkL.out)).md
        obtain rfl : gp = y' := by have e9 := congrArg List.head? ep; simp at e9; exact e9
        simp only [Nat.reduceMul, Nat.reduceAdd] at F
        generalize (w9.setCell ⟨hb, 12 + i, none⟩ (.pointer (some ⟨gp, 0, none⟩))).setCell ⟨hb, 28 + i, none⟩ (.pointer (some ⟨x, 0, none⟩)) = W9 at *
        go_wp2_with ((go_at_call 56; refine (puDone_c hcr).mono ?_; rintro e w' ⟨rfl, rfl⟩; rw [show decide (4 ≤ (⟨1, 0, [z], 0, 0⟩ : Pu).ph) = false from rfl]))
        go_ret
        exact ⟨rfl, F⟩)
    · go_region_law (refine step_append_ints (B := w.heap.size) (v := .slice none 0 0) (xs := []) (ys := k.has.drop 1) (by rfl) _ _ (by rfl) _ (by rfl) (by rfl) (Row.nil _ _ _) (CutI.srcDrop (RC.keeps (Keeps.refl _).drew) (by omega) _ (fun _ => by rw [Nat.zero_add]) (by omega)) (by rw [List.length_nil, List.length_drop]; omega) h.keeps.size ?_; intro v6 w6 R6 U6 O6; rw [List.nil_append, HDr.out] at R6; have h := (h.later (Keeps.refl _).drew).stepH HC.out HKs.out U6 (by simp) R6 (fun y hy => by rcases O6 y hy with o | o; (simp at o); (right; rw [o]; exact Nat.le_refl _)); obtain ⟨a6, c6, hv6, -⟩ := R6.reads; generalize List.length _ = n6 at hv6; subst hv6; have ch := h.hands.cellv cH.out; have fh := h.hands.frozen (32 + i))
      have h := h.cell (32 + i) (.slice a6 n6 c6)
      generalize w6.setCell ⟨hb, 32 + i, none⟩ (.slice a6 n6 c6) = W5 at *
      go_upto_region 11 with (go_at_call 14; refine (back_c z h.hR h.hS z0 z1).mono ?_; rintro e w8 ⟨gp, vp, rfl, hk8, hg8, hr8⟩; have hWs := h.keeps.size; have h := h.newP (List.getElem?_set_self HcL.out) (List.getElem?_set_self HkL.out) hk8 (f := gp :: ownB vp) (md := .pu ⟨1, 0, [z], 0, 0⟩) ⟨gp, vp, rfl, ⟨hr8.has, hr8.row.mono (by omega)⟩⟩ (fun y hy => by rcases List.mem_cons.1 hy with e | hy; (rw [e]; exact hg8); (have := (hr8.row.own y hy).1; omega)))
      simp only [List.set_set] at h
      obtain ⟨Pl2, E2, hW2⟩ := h.hW
      have FX_ := (hW2).facts; simp only [blockFacts, listFacts, cellsAt, Nat.reduceAdd, and_true, true_and, and_assoc, rwOf] at FX_
      have cz := h.hands.cellv (cZ2.out _)
      have hX0 := (h.hands.cell (28 + i)).trans (HVx2.out _)
      have hfr := h.hands.frozen (12 + i)
      have hfx := h.hands.frozen (28 + i)
      have hul := h.hands.lt
      have cwA : ∀ o : Obj, (w8.alloc o).cell? ⟨W, 8, none⟩ = some (.pointer (some ⟨Sp, 0, none⟩)) := fun o => (hW2.alloc o).cell 8
      go_region_law (go_simp; go_at_call 111; refine (rmkPush_c [z] _ 1 (Has.src (by first | exact Has.new _ _ _ | exact Has.drew (Has.new _ _ _)) 1) (by simp) (by simp)).mono ?_; rintro e w9 ⟨x, vd, rfl, hk9, hx9, hd9, hrow9⟩; have hWs9 := h.keeps.size; have hW8 : w.heap.size ≤ w8.heap.size := hWs9; have h := (h.later (by ((repeat' (first | (with_reducible exact Keeps.refl _) | (with_reducible assumption) | (with_reducible refine Keeps.drewN ?_ _) | (with_reducible refine Keeps.drew ?_) | (with_reducible refine Keeps.alloc ?_ _) | (with_reducible refine Keeps.setCell ?_ ?_ _) | (with_reducible refine Keeps.trans ?_ (After.keeps _)) | (with_reducible refine Keeps.trans ?_ (by with_reducible assumption)) | go_size)); (first | done | fail)))).newR (List.getElem?_set_self HcL.out) (List.getElem?_set_self HkL.out) hk9 (f := x :: ownB vd) (md := .pu ⟨1, 0, [z], 0, 0⟩) ⟨x, vd, rfl, ⟨Has.congr hd9 (by simp [rpuAt]), hrow9.mono (by first | (simp; omega) | (have := hWs9; simp at *; omega))⟩⟩ (fun y hy => by rcases List.mem_cons.1 hy with e | hy; (rw [e]; exact hx9); (exact (hrow9.own y hy).1)); have cz := h.hands.cellv (cZ2.out _); have hX0 := (h.hands.cell (28 + i)).trans (HVx2.out _); have hfr := h.hands.frozen (12 + i); have hfx := h.hands.frozen (28 + i))
      all_goals (
        simp only [List.set_set] at h
        have F := HInv.beginH (a := 3) (p' := gp :: ownB vp) (x' := x :: ownB vd) (md' := .pu ⟨1, 0, [z], 0, 0⟩) (v1 := .pointer (some ⟨gp, 0, none⟩)) (v2 := .pointer (some ⟨x, 0, none⟩)) h HHl.out HTi.out HAl.out HC.out HK.out HMd.out hi4 (by omega) rfl rfl rfl ⟨hpu_inv n (by omega) z0 z1, show (1 : Nat) < 4 by decide⟩ HZs.out HZl.out hcc
        have h3 := (h.cell (12 + i) (.pointer (some ⟨gp, 0, none⟩))).cell (28 + i) (.pointer (some ⟨x, 0, none⟩))
        obtain ⟨y', vy, ep, hcr⟩ := (h3.gang.rep i _ _ (List.getElem?_set_self HcL.out) (List.getElem?_set_self HkL.out)).md
        obtain rfl : gp = y' := by have e9 := congrArg List.head? ep; simp at e9; exact e9
        simp only [Nat.reduceMul, Nat.reduceAdd] at F
        generalize (w9.setCell ⟨hb, 12 + i, none⟩ (.pointer (some ⟨gp, 0, none⟩))).setCell ⟨hb, 28 + i, none⟩ (.pointer (some ⟨x, 0, none⟩)) = W9 at *
        go_wp2_with ((go_at_call 56; refine (puDone_c hcr).mono ?_; rintro e w' ⟨rfl, rfl⟩; rw [show decide (4 ≤ (⟨1, 0, [z], 0, 0⟩ : Pu).ph) = false from rfl]))
        go_ret
        exact ⟨rfl, F⟩)
    )
end
end Go.Proofs.YtaecapjicphdkaaGreat

/- RootsPlay's goes: whoever, whatever. -/
namespace Go.Proofs.YtaecapjicphdkaaGreat
set_option linter.unusedVariables false
set_option linter.unusedSimpArgs false
open Go Go.RowKit
set_option maxRecDepth 100000
set_option maxHeartbeats 2000000

section
variable {w wr w' : World} {m b R S W g gb Sp hb n : Nat} {l : List Int} {cc C : Int} {H : List Value} {cs : List HLoc} {ws : List HWs} {i : Nat} {c : HLoc} {k : HWs}
theorem goes_no (v : Int) (h : HA w wr m b R S W g gb Sp hb n l l cc cc H cs (hks ws)) (ti : HTies H cs ws) (A : HAll n C l ws) (c0 : 0 ≤ cc) (hcc : cc ≤ C) (hC : C ≤ 1000) (hc : cs[i]? = some c) (hk : ws[i]? = some k) (hmd : k.md = .no) (hi4 : i < 4) (n1 : 1 ≤ n) (n4 : n ≤ 4) (v0 : 0 ≤ v) (v1 : v < 240) :
    Calls Tryz.prog 24 #[.pointer (some ⟨hb, 0, none⟩), .pointer (some ⟨R, 0, none⟩), .pointer (some ⟨W, 0, none⟩), .int .i64 i, .int .i64 v] wr fun e w' => e = .returned (.bool true) ∧ HInv w w' m b R S W g gb Sp hb n (C + 1) := by
  have B : Hid (Calls Tryz.prog 66 #[.pointer (some ⟨hb, 0, none⟩), .pointer (some ⟨R, 0, none⟩), .pointer (some ⟨W, 0, none⟩), .int .i64 i, .int .i64 v] wr fun e w' => e = .returned (.bool true) ∧ HInv w w' m b R S W g gb Sp hb n (C + 1)) := Lib.hid (by
    by_cases h1 : v % 5 < 2
    · exact begins_cr v h ti A c0 hcc hC hc hk hmd hi4 n1 n4 v0 v1 h1
    · by_cases h2 : k.has = []
      · by_cases h3 : v % 5 < 4
        · exact begins_en v h ti A c0 hcc hC hc hk hmd hi4 n1 n4 v0 v1 ⟨by omega, h3⟩ h2
        · exact begins_lk v h ti A c0 hcc hC hc hk hmd hi4 n1 n4 v0 v1 (by omega) h2
      · exact begins_pu v h ti A c0 hcc hC hc hk hmd hi4 n1 n4 v0 v1 (by omega) h2)
  have T := ti i c k hi4 hc hk
  rw [hmd] at T
  have n0 : Hid (H.toArray[i]? = some (.pointer none)) := Lib.hid (by have := T.p 0 (by omega); simpa [hkind] using this)
  have n1' : Hid (H.toArray[4 + i]? = some (.pointer none)) := Lib.hid (by have := T.p 1 (by omega); simpa [hkind] using this)
  have n2' : Hid (H.toArray[8 + i]? = some (.pointer none)) := Lib.hid (by have := T.p 2 (by omega); simpa [hkind] using this)
  have n3' : Hid (H.toArray[12 + i]? = some (.pointer none)) := Lib.hid (by have := T.p 3 (by omega); simpa [hkind] using this)
  have hh := h.hands
  have z0 := hh.cellv n0.out
  have z1 := hh.cellv n1'.out
  have z2 := hh.cellv n2'.out
  have z3 := hh.cellv n3'.out
  have i0 : (0 : Int) ≤ (i : Int) := by omega
  have i4 : (i : Int) < 4 := by omega
  clear T ti A hc hk hmd h hh
  go_enter Tryz.func24, Tryz.ntmps24
  go_wp2_with (go_at_call 66; refine B.out.mono ?_; rintro e w9 ⟨rfl, F⟩)
  go_ret
  exact ⟨rfl, F⟩
theorem goes_all (v : Int) (h : HInv w wr m b R S W g gb Sp hb n C) (hC : C ≤ 1000) (hi4 : i < 4) (n1 : 1 ≤ n) (n4 : n ≤ 4) (v0 : 0 ≤ v) (v1 : v < 240) :
    Calls Tryz.prog 24 #[.pointer (some ⟨hb, 0, none⟩), .pointer (some ⟨R, 0, none⟩), .pointer (some ⟨W, 0, none⟩), .int .i64 i, .int .i64 v] wr fun e w' => e = .returned (.bool true) ∧ HInv w w' m b R S W g gb Sp hb n (C + 1) := by
  obtain ⟨l, cc, H, cs, ws, h, ti, A, hcc⟩ := h
  obtain ⟨c, hc⟩ : ∃ c, cs[i]? = some c := ⟨_, List.getElem?_eq_getElem (by rw [h.gang.clen]; exact hi4)⟩
  obtain ⟨k, hk⟩ : ∃ k, ws[i]? = some k := ⟨_, List.getElem?_eq_getElem (by have := h.gang.wlen; simp [hks] at this; omega)⟩
  cases hm : k.md with
  | cr cls s => exact goes_cr v h ti A hcc hC hc hk hm hi4 n1 n4
  | en slot gen s => exact goes_en v h ti A hcc hC hc hk hm hi4 n1 n4
  | lk slot gen => exact goes_lk v h ti A hcc hC hc hk hm hi4 n1 n4
  | ld a b c d => exact absurd (A.md i k hk).1 (by rw [hm]; exact id)
  | pu s => exact goes_pu v h ti A hcc hC hc hk hm hi4 n1 n4
  | no => exact goes_no v h ti A h.rmem.c0 hcc hC hc hk hm hi4 n1 n4 v0 v1
end
end Go.Proofs.YtaecapjicphdkaaGreat
