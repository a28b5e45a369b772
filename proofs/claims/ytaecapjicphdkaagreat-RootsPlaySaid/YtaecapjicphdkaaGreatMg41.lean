/- RootsPlay's begins, walked: a Create begins. -/
import Derived.Test.YtaecapjicphdkaaGreatMg40
import Derived.Test.YtaecapjicphdkaaGreatMg18
import Derived.Deep.RegionHeld3
import Derived.Deep.RegionLaw
import Derived.Deep.QuietTactic
import Derived.BigQuiet
namespace Go.Proofs.YtaecapjicphdkaaGreat
set_option linter.unusedVariables false
set_option linter.unusedSimpArgs false
open Go Go.RowKit
set_option maxRecDepth 100000
set_option maxHeartbeats 4000000

section
variable {w wr w' : World} {m b R S W g gb Sp hb n : Nat} {l : List Int} {cc C : Int} {H : List Value} {cs : List HLoc} {ws : List HWs} {i : Nat} {c : HLoc} {k : HWs}
theorem begins_cr (v : Int) (h : HA w wr m b R S W g gb Sp hb n l l cc cc H cs (hks ws)) (ti : HTies H cs ws) (A : HAll n C l ws) (c0 : 0 ≤ cc) (hcc : cc ≤ C) (hC : C ≤ 1000) (hc : cs[i]? = some c) (hk : ws[i]? = some k) (hmd : k.md = .no) (hi4 : i < 4) (n1 : 1 ≤ n) (n4 : n ≤ 4) (v0 : 0 ≤ v) (v1 : v < 240) (hu : v % 5 < 2) :
    Calls Tryz.prog 66 #[.pointer (some ⟨hb, 0, none⟩), .pointer (some ⟨R, 0, none⟩), .pointer (some ⟨W, 0, none⟩), .int .i64 i, .int .i64 v] wr fun e w' => e = .returned (.bool true) ∧ HInv w w' m b R S W g gb Sp hb n (C + 1) := by
  have hks := hks_at hk
  have P := h.gang.rep i c _ hc hks
  have pm := P.md
  have rm := P.rmd
  have rH := P.has
  dsimp only at pm rm rH
  rw [hmd] at pm rm
  have pm : c.p = [] := pm
  have rm : c.x = [] := rm
  have T := ti i c k hi4 hc hk
  rw [hmd] at T
  obtain ⟨ah, caph, hvh, -⟩ := rH.reads
  obtain ⟨-, hit, hln⟩ := A.md i k hk
  obtain ⟨Pl, E, hW⟩ := h.hW
  have hcl := (List.getElem?_eq_some_iff.1 hc).1
  have hwl := (List.getElem?_eq_some_iff.1 hk).1
  have hkl : i < (Go.Proofs.YtaecapjicphdkaaGreat.hks ws).length := by simp [Go.Proofs.YtaecapjicphdkaaGreat.hks]; exact hwl
  have cH : Hid (H.toArray[32 + i]? = some (.slice ah k.has.length caph)) := Lib.hid (by have := T.h; rw [hvh] at this; simpa using this)
  have hHl := h.hlen
  have HHl := Lib.hid hHl
  have i0 : (0 : Int) ≤ (i : Int) := by omega
  have i4 : (i : Int) < 4 := by omega
  obtain ⟨a5, ha5⟩ : ∃ a, v / 5 = a := ⟨_, rfl⟩
  obtain ⟨sn, hsn⟩ := Int.eq_ofNat_of_zero_le (show 0 ≤ v / 5 % 4 by omega)
  rw [ha5] at hsn
  obtain ⟨a20, ha20⟩ : ∃ a, v / 20 = a := ⟨_, rfl⟩
  obtain ⟨r6, hr6⟩ : ∃ a, a20 % 6 = a := ⟨_, rfl⟩
  obtain ⟨p2, hp2⟩ : ∃ a, v % 2 = a := ⟨_, rfl⟩
  obtain ⟨u5, hu5⟩ : ∃ a, v % 5 = a := ⟨_, rfl⟩
  have hsn4 : sn < 4 := by omega
  have hr0 : 0 ≤ r6 := by omega
  have hr1 : r6 < 6 := by omega
  have hp0 : p2 = 0 ∨ p2 = 1 := by omega
  have hu0 : 0 ≤ u5 := by omega
  have hu1 : u5 < 5 := by omega
  have e1 : IntKind.i64.wrap (v.tdiv 5) = a5 := by rw [Int.tdiv_eq_ediv_of_nonneg v0, ha5]; exact wrapI_ok _ (by omega) (by omega)
  have e3 : IntKind.i64.wrap (v.tdiv 20) = a20 := by rw [Int.tdiv_eq_ediv_of_nonneg v0, ha20]; exact wrapI_ok _ (by omega) (by omega)
  have hcd := by have := hu; rw [hu5] at this; exact this
  have ha50 : 0 ≤ a5 := by omega
  have ha200 : 0 ≤ a20 := by omega
  have e7 : IntKind.i64.wrap (1 + r6) = 1 + r6 := wrapI_ok _ (by omega) (by omega)
  clear ha5 ha20
  have hcd : u5 < 2 := hcd
  have cZ : Hid (H.toArray[i]? = some (.pointer none)) := Lib.hid (by have := T.p 0 (by omega); simpa [hkind] using this)
  have cz := h.hands.cellv cZ.out
  have hX0 := h.hands.cell (16 + i)
  obtain ⟨vx, hvx⟩ : ∃ vx, H.toArray[16 + i]? = some vx := ⟨_, Array.getElem?_eq_getElem (by simp; omega)⟩
  have HVx := Lib.hid hvx
  rw [hvx] at hX0
  have hfr := h.hands.frozen i
  have hfx := h.hands.frozen (16 + i)
  clear hvx
  have hWf := hW
  have FX_ := (hWf).facts; simp only [blockFacts, listFacts, cellsAt, Nat.reduceAdd, and_true, true_and, and_assoc, rwOf] at FX_
  have hn0 : (0 : Int) ≤ (n : Int) := by omega
  have hll := A.ok.len
  have RT : Hid (sn < n → ∀ W2, Keeps wr W2 → Calls Tryz.prog 109 #[.pointer (some ⟨W, 0, none⟩), .int .i64 sn] W2 fun e w' => e = .returned (rootV (l.getD (4 + sn) 0)) ∧ Keeps W2 w') := Lib.hid (fun hs W2 hk2 => by
    have ho : l[4 + sn]? = some (l.getD (4 + sn) 0) := getD_some (by omega)
    have hwd := A.ok.words _ (List.mem_of_getElem? ho)
    refine rroot_c (hW.keeps hk2) (h.rmem.keeps hk2) ?_ ho hwd.1 hwd.2
    have := (rtAt n n1 n4).at_ (sn : Int) (by omega) (by omega)
    simpa using this)
  have HC := Lib.hid hc
  have HK := Lib.hid hk
  have HMd := Lib.hid hmd
  have HKs := Lib.hid hks
  have HTi := Lib.hid ti
  have HAl := Lib.hid A
  have HPm := Lib.hid pm
  have HRm := Lib.hid rm
  have HIt := Lib.hid hit
  have HLn := Lib.hid hln
  have HVh := Lib.hid hvh
  have HcL := Lib.hid hcl
  have HkL := Lib.hid hkl
  have hsc : (((sn : Int) < n) ∧ sn < n ∧ p2 = 0) ∨ (((sn : Int) < n) ∧ sn < n ∧ p2 = 1) ∨ (¬ (sn : Int) < n) := by omega
  generalize hro : l.getD (4 + sn) 0 = ro at *
  have HRo := Lib.hid hro
  clear hro hc hk hmd hks ti A pm rm hit hln hvh hcl hwl hkl T P rH hHl hu hp0 hll
  rcases hsc with ⟨hsI, hs, rfl⟩ | ⟨hsI, hs, rfl⟩ | hsI
  all_goals (
    go_enter Tryz.func66, Tryz.ntmps66
    go_upto_region 5 with (go_at_call 109; refine (RT.out hs _ (Keeps.refl _)).mono ?_; rintro e w7 ⟨rfl, hk7⟩)
    go_region_law (first
      | (go_simp; go_at_call 28; refine (mkCreate_c (B := w.heap.size) a20 (h.later (by ((repeat' (first | (with_reducible exact Keeps.refl _) | (with_reducible assumption) | (with_reducible refine Keeps.drewN ?_ _) | (with_reducible refine Keeps.drew ?_) | (with_reducible refine Keeps.alloc ?_ _) | (with_reducible refine Keeps.setCell ?_ ?_ _) | (with_reducible refine Keeps.trans ?_ (After.keeps _)) | (with_reducible refine Keeps.trans ?_ (by with_reducible assumption)) | go_size)); (first | done | fail)))).hR).mono ?_; rintro e w5 ⟨y, pg, rfl, hk5, hy, hpg, hp, hx⟩; have h := (h.later (by ((repeat' (first | (with_reducible exact Keeps.refl _) | (with_reducible assumption) | (with_reducible refine Keeps.drewN ?_ _) | (with_reducible refine Keeps.drew ?_) | (with_reducible refine Keeps.alloc ?_ _) | (with_reducible refine Keeps.setCell ?_ ?_ _) | (with_reducible refine Keeps.trans ?_ (After.keeps _)) | (with_reducible refine Keeps.trans ?_ (by with_reducible assumption)) | go_size)); (first | done | fail)))).newP HC.out HKs.out hk5 (f := [y, pg]) (md := .cr (clampI a20) cr0) ⟨y, pg, .slice none 0 0, rfl, hx, hp⟩ (by simp; exact ⟨hy, hpg⟩))
      | (go_simp; obtain ⟨Pl2, E2, hW2⟩ := h.hW; go_at_call 110; refine (rmkCreate_c a20 (hW2.keeps (by ((repeat' (first | (with_reducible exact Keeps.refl _) | (with_reducible assumption) | (with_reducible refine Keeps.drewN ?_ _) | (with_reducible refine Keeps.drew ?_) | (with_reducible refine Keeps.alloc ?_ _) | (with_reducible refine Keeps.setCell ?_ ?_ _) | (with_reducible refine Keeps.trans ?_ (After.keeps _)) | (with_reducible refine Keeps.trans ?_ (by with_reducible assumption)) | go_size)); (first | done | fail))))).mono ?_; rintro e w6 ⟨x, px, rfl, hk6, hx6, hpx, hr6⟩; have h := (h.later (by ((repeat' (first | (with_reducible exact Keeps.refl _) | (with_reducible assumption) | (with_reducible refine Keeps.drewN ?_ _) | (with_reducible refine Keeps.drew ?_) | (with_reducible refine Keeps.alloc ?_ _) | (with_reducible refine Keeps.setCell ?_ ?_ _) | (with_reducible refine Keeps.trans ?_ (After.keeps _)) | (with_reducible refine Keeps.trans ?_ (by with_reducible assumption)) | go_size)); (first | done | fail)))).newR (List.getElem?_set_self HcL.out) (List.getElem?_set_self HkL.out) hk6 (f := [x, px]) (md := .cr (clampI a20) cr0) ⟨x, px, .slice none 0 0, rfl, hr6.mono rfl⟩ (by simp; exact ⟨hx6, hpx⟩); have cz := h.hands.cellv cZ.out; have hX0 := (h.hands.cell (16 + i)).trans HVx.out; have hfr := h.hands.frozen i; have hfx := h.hands.frozen (16 + i))))
  all_goals (
    simp only [List.set_set] at h
    have h3 := (h.cell i (.pointer (some ⟨y, 0, none⟩))).cell (16 + i) (.pointer (some ⟨x, 0, none⟩))
    have F : HInv w ((w6.setCell ⟨hb, i, none⟩ (.pointer (some ⟨y, 0, none⟩))).setCell ⟨hb, 16 + i, none⟩ (.pointer (some ⟨x, 0, none⟩))) m b R S W g gb Sp hb n (C + 1) := by
      simpa using HInv.begin_ (a := 0) (p' := [y, pg]) (x' := [x, px]) (md' := .cr (clampI a20) cr0) (v1 := .pointer (some ⟨y, 0, none⟩)) (v2 := .pointer (some ⟨x, 0, none⟩)) h HTi.out HAl.out HC.out HK.out HMd.out hi4 (by omega) rfl rfl rfl ⟨hcr0_inv n (by omega), by decide, rfl⟩ hcc
    have cz3 := h3.hands.cellv (o := i) (v := .pointer (some ⟨y, 0, none⟩)) (by have := HHl.out; simp [List.getElem?_set]; omega)
    obtain ⟨y', pg', v', ep, hcr⟩ := (h3.gang.rep i _ _ (List.getElem?_set_self HcL.out) (List.getElem?_set_self HkL.out)).md
    obtain rfl : y = y' := by have e9 := congrArg List.head? ep; simp at e9; exact e9
    have hx3 := hcr.has
    generalize (w6.setCell ⟨hb, i, none⟩ (.pointer (some ⟨y, 0, none⟩))).setCell ⟨hb, 16 + i, none⟩ (.pointer (some ⟨x, 0, none⟩)) = W3 at *
    go_wp2_with (go_at_call 31; refine (crDone_c (o := crNx 0) hx3).mono ?_; rintro e w' ⟨rfl, rfl⟩; rw [show (crNx 0).isNone = false from rfl])
    go_ret
    exact ⟨rfl, F⟩)
end
end Go.Proofs.YtaecapjicphdkaaGreat

/- RootsPlay's begins, walked: an End begins. -/
namespace Go.Proofs.YtaecapjicphdkaaGreat
set_option linter.unusedVariables false
set_option linter.unusedSimpArgs false
open Go Go.RowKit
set_option maxRecDepth 100000
set_option maxHeartbeats 4000000

section
variable {w wr w' : World} {m b R S W g gb Sp hb n : Nat} {l : List Int} {cc C : Int} {H : List Value} {cs : List HLoc} {ws : List HWs} {i : Nat} {c : HLoc} {k : HWs}
theorem begins_en (v : Int) (h : HA w wr m b R S W g gb Sp hb n l l cc cc H cs (hks ws)) (ti : HTies H cs ws) (A : HAll n C l ws) (c0 : 0 ≤ cc) (hcc : cc ≤ C) (hC : C ≤ 1000) (hc : cs[i]? = some c) (hk : ws[i]? = some k) (hmd : k.md = .no) (hi4 : i < 4) (n1 : 1 ≤ n) (n4 : n ≤ 4) (v0 : 0 ≤ v) (v1 : v < 240) (hu : 2 ≤ v % 5 ∧ v % 5 < 4) (hemp : k.has = []) :
    Calls Tryz.prog 66 #[.pointer (some ⟨hb, 0, none⟩), .pointer (some ⟨R, 0, none⟩), .pointer (some ⟨W, 0, none⟩), .int .i64 i, .int .i64 v] wr fun e w' => e = .returned (.bool true) ∧ HInv w w' m b R S W g gb Sp hb n (C + 1) := by
  have hks := hks_at hk
  have P := h.gang.rep i c _ hc hks
  have pm := P.md
  have rm := P.rmd
  have rH := P.has
  dsimp only at pm rm rH
  rw [hmd] at pm rm
  have pm : c.p = [] := pm
  have rm : c.x = [] := rm
  have T := ti i c k hi4 hc hk
  rw [hmd] at T
  obtain ⟨ah, caph, hvh, -⟩ := rH.reads
  obtain ⟨-, hit, hln⟩ := A.md i k hk
  obtain ⟨Pl, E, hW⟩ := h.hW
  have hcl := (List.getElem?_eq_some_iff.1 hc).1
  have hwl := (List.getElem?_eq_some_iff.1 hk).1
  have hkl : i < (Go.Proofs.YtaecapjicphdkaaGreat.hks ws).length := by simp [Go.Proofs.YtaecapjicphdkaaGreat.hks]; exact hwl
  have cH : Hid (H.toArray[32 + i]? = some (.slice ah k.has.length caph)) := Lib.hid (by have := T.h; rw [hvh] at this; simpa using this)
  have hHl := h.hlen
  have HHl := Lib.hid hHl
  have i0 : (0 : Int) ≤ (i : Int) := by omega
  have i4 : (i : Int) < 4 := by omega
  obtain ⟨a5, ha5⟩ : ∃ a, v / 5 = a := ⟨_, rfl⟩
  obtain ⟨sn, hsn⟩ := Int.eq_ofNat_of_zero_le (show 0 ≤ v / 5 % 4 by omega)
  rw [ha5] at hsn
  obtain ⟨a20, ha20⟩ : ∃ a, v / 20 = a := ⟨_, rfl⟩
  obtain ⟨r6, hr6⟩ : ∃ a, a20 % 6 = a := ⟨_, rfl⟩
  obtain ⟨p2, hp2⟩ : ∃ a, v % 2 = a := ⟨_, rfl⟩
  obtain ⟨u5, hu5⟩ : ∃ a, v % 5 = a := ⟨_, rfl⟩
  have hsn4 : sn < 4 := by omega
  have hr0 : 0 ≤ r6 := by omega
  have hr1 : r6 < 6 := by omega
  have hp0 : p2 = 0 ∨ p2 = 1 := by omega
  have hu0 : 0 ≤ u5 := by omega
  have hu1 : u5 < 5 := by omega
  have e1 : IntKind.i64.wrap (v.tdiv 5) = a5 := by rw [Int.tdiv_eq_ediv_of_nonneg v0, ha5]; exact wrapI_ok _ (by omega) (by omega)
  have e3 : IntKind.i64.wrap (v.tdiv 20) = a20 := by rw [Int.tdiv_eq_ediv_of_nonneg v0, ha20]; exact wrapI_ok _ (by omega) (by omega)
  have hcd := by have := hu; rw [hu5] at this; exact this
  have ha50 : 0 ≤ a5 := by omega
  have ha200 : 0 ≤ a20 := by omega
  have e7 : IntKind.i64.wrap (1 + r6) = 1 + r6 := wrapI_ok _ (by omega) (by omega)
  clear ha5 ha20
  have cZ : Hid (H.toArray[4 + i]? = some (.pointer none)) := Lib.hid (by have := T.p 1 (by omega); simpa [hkind] using this)
  have cz := h.hands.cellv cZ.out
  have hX0 := h.hands.cell (20 + i)
  obtain ⟨vx, hvx⟩ : ∃ vx, H.toArray[20 + i]? = some vx := ⟨_, Array.getElem?_eq_getElem (by simp; omega)⟩
  have HVx := Lib.hid hvx
  rw [hvx] at hX0
  have hfr := h.hands.frozen (4 + i)
  have hfx := h.hands.frozen (20 + i)
  have hl0 : k.has.length = 0 := by rw [hemp]; rfl
  rw [hl0] at cH
  have ch := h.hands.cellv cH.out
  clear hvx hl0 hemp
  have hWf := hW
  have FX_ := (hWf).facts; simp only [blockFacts, listFacts, cellsAt, Nat.reduceAdd, and_true, true_and, and_assoc, rwOf] at FX_
  have hn0 : (0 : Int) ≤ (n : Int) := by omega
  have hll := A.ok.len
  have RT : Hid (sn < n → ∀ W2, Keeps wr W2 → Calls Tryz.prog 109 #[.pointer (some ⟨W, 0, none⟩), .int .i64 sn] W2 fun e w' => e = .returned (rootV (l.getD (4 + sn) 0)) ∧ Keeps W2 w') := Lib.hid (fun hs W2 hk2 => by
    have ho : l[4 + sn]? = some (l.getD (4 + sn) 0) := getD_some (by omega)
    have hwd := A.ok.words _ (List.mem_of_getElem? ho)
    refine rroot_c (hW.keeps hk2) (h.rmem.keeps hk2) ?_ ho hwd.1 hwd.2
    have := (rtAt n n1 n4).at_ (sn : Int) (by omega) (by omega)
    simpa using this)
  have HC := Lib.hid hc
  have HK := Lib.hid hk
  have HMd := Lib.hid hmd
  have HKs := Lib.hid hks
  have HTi := Lib.hid ti
  have HAl := Lib.hid A
  have HPm := Lib.hid pm
  have HRm := Lib.hid rm
  have HIt := Lib.hid hit
  have HLn := Lib.hid hln
  have HVh := Lib.hid hvh
  have HcL := Lib.hid hcl
  have HkL := Lib.hid hkl
  have hsc : (((sn : Int) < n) ∧ sn < n ∧ p2 = 0) ∨ (((sn : Int) < n) ∧ sn < n ∧ p2 = 1) ∨ (¬ (sn : Int) < n) := by omega
  generalize hro : l.getD (4 + sn) 0 = ro at *
  have HRo := Lib.hid hro
  clear hro hc hk hmd hks ti A pm rm hit hln hvh hcl hwl hkl T P rH hHl hp0 hll
  obtain ⟨hcd1, hcd2⟩ := hcd
  clear hu
  have i0s : (0 : Int) ≤ (sn : Int) := by omega
  rcases hsc with ⟨hsI, hs, rfl⟩ | ⟨hsI, hs, rfl⟩ | hsI
  · go_enter Tryz.func66, Tryz.ntmps66
    go_upto_region 17 with (first
      | (go_at_call 109; refine (RT.out hs _ (Keeps.refl _)).mono ?_; rintro e w7 ⟨rfl, hk7⟩; have h := h.later hk7; have ch := h.hands.cellv cH.out; obtain ⟨Pl2, E2, hW2⟩ := h.hW; have FX_ := (hW2).facts; simp only [blockFacts, listFacts, cellsAt, Nat.reduceAdd, and_true, true_and, and_assoc, rwOf] at FX_)
      | (go_at_call 13; refine (mkEnd_c (sn : Int) _ (h.later (by ((repeat' (first | (with_reducible exact Keeps.refl _) | (with_reducible assumption) | (with_reducible refine Keeps.drewN ?_ _) | (with_reducible refine Keeps.drew ?_) | (with_reducible refine Keeps.alloc ?_ _) | (with_reducible refine Keeps.setCell ?_ ?_ _) | (with_reducible refine Keeps.trans ?_ (After.keeps _)) | (with_reducible refine Keeps.trans ?_ (by with_reducible assumption)) | go_size)); (first | done | fail)))).hR i0s hsI).mono ?_; rintro e w5 ⟨y, rfl, hk5, hy, hx⟩; have h := (h.later (by ((repeat' (first | (with_reducible exact Keeps.refl _) | (with_reducible assumption) | (with_reducible refine Keeps.drewN ?_ _) | (with_reducible refine Keeps.drew ?_) | (with_reducible refine Keeps.alloc ?_ _) | (with_reducible refine Keeps.setCell ?_ ?_ _) | (with_reducible refine Keeps.trans ?_ (After.keeps _)) | (with_reducible refine Keeps.trans ?_ (by with_reducible assumption)) | go_size)); (first | done | fail)))).newP HC.out HKs.out hk5 (f := [y]) (md := (.en sn (ro / 4294967296) enOf0)) ⟨y, rfl, hx⟩ (by simpa using hy); obtain ⟨Pl2, E2, hW2⟩ := h.hW; have FX_ := (hW2).facts; simp only [blockFacts, listFacts, cellsAt, Nat.reduceAdd, and_true, true_and, and_assoc, rwOf] at FX_))
    have cz := h.hands.cellv cZ.out
    have hX0 := (h.hands.cell (20 + i)).trans HVx.out
    have hfr := h.hands.frozen (4 + i)
    have hfx := h.hands.frozen (20 + i)
    have hul := h.hands.lt
    have chA : ∀ o : Obj, (w5.alloc o).cell? ⟨hb, 20 + i, none⟩ = some vx := fun o => ((h.hands.alloc o).cell (20 + i)).trans HVx.out
    have chB : ∀ o : Obj, (w5.alloc o).cell? ⟨hb, 4 + i, none⟩ = some (.pointer none) := fun o => (h.hands.alloc o).cellv cZ.out
    have cfA : ∀ o : Obj, (w5.alloc o).frozen? ⟨hb, 20 + i, none⟩ = false := fun o => (h.hands.alloc o).frozen _
    have cfB : ∀ o : Obj, (w5.alloc o).frozen? ⟨hb, 4 + i, none⟩ = false := fun o => (h.hands.alloc o).frozen _
    go_region_law (go_simp; go_at_call 112; refine (rmkEnd_c W _ _ _).mono ?_; rintro e w6 ⟨x, rfl, hk6, hx6, hr6⟩; have h := (h.later (by ((repeat' (first | (with_reducible exact Keeps.refl _) | (with_reducible assumption) | (with_reducible refine Keeps.drewN ?_ _) | (with_reducible refine Keeps.drew ?_) | (with_reducible refine Keeps.alloc ?_ _) | (with_reducible refine Keeps.setCell ?_ ?_ _) | (with_reducible refine Keeps.trans ?_ (After.keeps _)) | (with_reducible refine Keeps.trans ?_ (by with_reducible assumption)) | go_size)); (first | done | fail)))).newR (List.getElem?_set_self HcL.out) (List.getElem?_set_self HkL.out) hk6 (f := [x]) (md := .en sn (ro / 4294967296) enOf0) ⟨x, rfl, hr6⟩ (by simpa using hx6); have cz := h.hands.cellv cZ.out; have hX0 := (h.hands.cell (20 + i)).trans HVx.out; have hfr := h.hands.frozen (4 + i); have hfx := h.hands.frozen (20 + i))
    all_goals (
      simp only [List.set_set] at h
      have F := HInv.begin_ (a := 1) (p' := [y]) (x' := [x]) (md' := (.en sn (ro / 4294967296) enOf0)) (v1 := .pointer (some ⟨y, 0, none⟩)) (v2 := .pointer (some ⟨x, 0, none⟩)) h HTi.out HAl.out HC.out HK.out HMd.out hi4 (by omega) rfl rfl rfl ⟨⟨i0s, hsI⟩, hen_inv (by omega), by decide, rfl⟩ hcc
      have h3 := (h.cell (4 + i) (.pointer (some ⟨y, 0, none⟩))).cell (20 + i) (.pointer (some ⟨x, 0, none⟩))
      obtain ⟨y', ep, hcr⟩ := (h3.gang.rep i _ _ (List.getElem?_set_self HcL.out) (List.getElem?_set_self HkL.out)).md
      obtain rfl : y = y' := by have e9 := congrArg List.head? ep; simp at e9; exact e9
      simp only [Nat.reduceMul, Nat.reduceAdd] at F
      generalize (w6.setCell ⟨hb, 4 + i, none⟩ (.pointer (some ⟨y, 0, none⟩))).setCell ⟨hb, 20 + i, none⟩ (.pointer (some ⟨x, 0, none⟩)) = W3 at *
      go_wp2_with (first
        | (go_at_call 53; refine (edDone_s hcr).mono ?_; rintro e w' ⟨rfl, rfl⟩; rw [show decide (2 ≤ enOf0.ph) = false from rfl])
        | (go_at_call 62; refine (edChunk_c hcr).mono ?_; rintro e w' ⟨rfl, rfl⟩; rw [show enOf0.chunk = -1 from rfl]))
      go_ret
      exact ⟨rfl, F⟩)
  · go_enter Tryz.func66, Tryz.ntmps66
    go_upto_region 17 with (first
      | (go_at_call 109; refine (RT.out hs _ (Keeps.refl _)).mono ?_; rintro e w7 ⟨rfl, hk7⟩; have h := h.later hk7; have ch := h.hands.cellv cH.out; obtain ⟨Pl2, E2, hW2⟩ := h.hW; have FX_ := (hW2).facts; simp only [blockFacts, listFacts, cellsAt, Nat.reduceAdd, and_true, true_and, and_assoc, rwOf] at FX_)
      | (go_at_call 13; refine (mkEnd_c (sn : Int) _ (h.later (by ((repeat' (first | (with_reducible exact Keeps.refl _) | (with_reducible assumption) | (with_reducible refine Keeps.drewN ?_ _) | (with_reducible refine Keeps.drew ?_) | (with_reducible refine Keeps.alloc ?_ _) | (with_reducible refine Keeps.setCell ?_ ?_ _) | (with_reducible refine Keeps.trans ?_ (After.keeps _)) | (with_reducible refine Keeps.trans ?_ (by with_reducible assumption)) | go_size)); (first | done | fail)))).hR i0s hsI).mono ?_; rintro e w5 ⟨y, rfl, hk5, hy, hx⟩; have h := (h.later (by ((repeat' (first | (with_reducible exact Keeps.refl _) | (with_reducible assumption) | (with_reducible refine Keeps.drewN ?_ _) | (with_reducible refine Keeps.drew ?_) | (with_reducible refine Keeps.alloc ?_ _) | (with_reducible refine Keeps.setCell ?_ ?_ _) | (with_reducible refine Keeps.trans ?_ (After.keeps _)) | (with_reducible refine Keeps.trans ?_ (by with_reducible assumption)) | go_size)); (first | done | fail)))).newP HC.out HKs.out hk5 (f := [y]) (md := (.en sn (1 + r6) enOf0)) ⟨y, rfl, hx⟩ (by simpa using hy); obtain ⟨Pl2, E2, hW2⟩ := h.hW; have FX_ := (hW2).facts; simp only [blockFacts, listFacts, cellsAt, Nat.reduceAdd, and_true, true_and, and_assoc, rwOf] at FX_))
    have cz := h.hands.cellv cZ.out
    have hX0 := (h.hands.cell (20 + i)).trans HVx.out
    have hfr := h.hands.frozen (4 + i)
    have hfx := h.hands.frozen (20 + i)
    have hul := h.hands.lt
    have chA : ∀ o : Obj, (w5.alloc o).cell? ⟨hb, 20 + i, none⟩ = some vx := fun o => ((h.hands.alloc o).cell (20 + i)).trans HVx.out
    have chB : ∀ o : Obj, (w5.alloc o).cell? ⟨hb, 4 + i, none⟩ = some (.pointer none) := fun o => (h.hands.alloc o).cellv cZ.out
    have cfA : ∀ o : Obj, (w5.alloc o).frozen? ⟨hb, 20 + i, none⟩ = false := fun o => (h.hands.alloc o).frozen _
    have cfB : ∀ o : Obj, (w5.alloc o).frozen? ⟨hb, 4 + i, none⟩ = false := fun o => (h.hands.alloc o).frozen _
    go_region_law (go_simp; go_at_call 112; refine (rmkEnd_c W _ _ _).mono ?_; rintro e w6 ⟨x, rfl, hk6, hx6, hr6⟩; have h := (h.later (by ((repeat' (first | (with_reducible exact Keeps.refl _) | (with_reducible assumption) | (with_reducible refine Keeps.drewN ?_ _) | (with_reducible refine Keeps.drew ?_) | (with_reducible refine Keeps.alloc ?_ _) | (with_reducible refine Keeps.setCell ?_ ?_ _) | (with_reducible refine Keeps.trans ?_ (After.keeps _)) | (with_reducible refine Keeps.trans ?_ (by with_reducible assumption)) | go_size)); (first | done | fail)))).newR (List.getElem?_set_self HcL.out) (List.getElem?_set_self HkL.out) hk6 (f := [x]) (md := .en sn (1 + r6) enOf0) ⟨x, rfl, hr6⟩ (by simpa using hx6); have cz := h.hands.cellv cZ.out; have hX0 := (h.hands.cell (20 + i)).trans HVx.out; have hfr := h.hands.frozen (4 + i); have hfx := h.hands.frozen (20 + i))
    all_goals (
      simp only [List.set_set] at h
      have F := HInv.begin_ (a := 1) (p' := [y]) (x' := [x]) (md' := (.en sn (1 + r6) enOf0)) (v1 := .pointer (some ⟨y, 0, none⟩)) (v2 := .pointer (some ⟨x, 0, none⟩)) h HTi.out HAl.out HC.out HK.out HMd.out hi4 (by omega) rfl rfl rfl ⟨⟨i0s, hsI⟩, hen_inv (by omega), by decide, rfl⟩ hcc
      have h3 := (h.cell (4 + i) (.pointer (some ⟨y, 0, none⟩))).cell (20 + i) (.pointer (some ⟨x, 0, none⟩))
      obtain ⟨y', ep, hcr⟩ := (h3.gang.rep i _ _ (List.getElem?_set_self HcL.out) (List.getElem?_set_self HkL.out)).md
      obtain rfl : y = y' := by have e9 := congrArg List.head? ep; simp at e9; exact e9
      simp only [Nat.reduceMul, Nat.reduceAdd] at F
      generalize (w6.setCell ⟨hb, 4 + i, none⟩ (.pointer (some ⟨y, 0, none⟩))).setCell ⟨hb, 20 + i, none⟩ (.pointer (some ⟨x, 0, none⟩)) = W3 at *
      go_wp2_with (first
        | (go_at_call 53; refine (edDone_s hcr).mono ?_; rintro e w' ⟨rfl, rfl⟩; rw [show decide (2 ≤ enOf0.ph) = false from rfl])
        | (go_at_call 62; refine (edChunk_c hcr).mono ?_; rintro e w' ⟨rfl, rfl⟩; rw [show enOf0.chunk = -1 from rfl]))
      go_ret
      exact ⟨rfl, F⟩)
  · have hnn : (n : Int) ≤ sn := by omega
    go_enter Tryz.func66, Tryz.ntmps66
    go_wp2_with (go_at_call 13; refine (mkEnd_no (sn : Int) _ h.hR (.inr hnn)).mono ?_; rintro e w5 ⟨rfl, rfl⟩)
    go_ret
    exact ⟨rfl, HInv.rest h HTi.out HAl.out hcc⟩
end
end Go.Proofs.YtaecapjicphdkaaGreat
