/- goes, walked: a Pop goes on. -/
import Derived.Test.YtcohhfndaogikaaGoes
namespace Go.Proofs.Ytcohhfndaogikaa
set_option linter.unusedVariables false
set_option linter.unusedSimpArgs false
open Go Go.RowKit
set_option maxRecDepth 100000
set_option maxHeartbeats 2000000

section
variable {w wr w' : World} {m b S g gb R hb n : Nat} {l l2 : List Int} {cc c2 C : Int} {ps os xs ys ls : List Value} {cs : List PLoc} {ks : List PWk} {ws : List Wk} {L : List Int} {i t T : Nat} {c : PLoc} {q : PWk} {k : Wk}
theorem PoRep.later {w w' : World} {B g S : Nat} {v : Value} {s : Po} (h : PoRep w B g S v s) (hk : Keeps w w') : PoRep w' B g S v s := ⟨h.has.keeps hk, h.row.keeps hk⟩
theorem RPoRep.keeps {w w' : World} {B g S : Nat} {v : Value} {s : Po} (h : RPoRep w B g S v s) (hk : Keeps w w') : RPoRep w' B g S v s := ⟨h.has.keeps hk, h.row.keeps hk⟩
/-- What stands behind both Steps of a Pop. -/
abbrev PoMid (w wr : World) (m b S g gb R hb n : Nat) (l : List Int) (cc : Int) (ps os xs ys ls : List Value) (cs : List PLoc) (ws : List Wk) (i : Nat) (c : PLoc) (k : Wk) (s : Po) (v d : Value) : Prop :=
  PA w wr m b S g gb R hb n (poMem 0 l s) (poMem 0 l s) (cc + poCount s) (cc + poCount s) ps os xs ys ls (cs.set i { c with v := v, d := d }) ((wks ws).set i ⟨⟨.po (poStep 0 2 n l s), k.has, k.puts⟩, .po (poStep 0 2 n l s)⟩)
theorem PInv.po_go {s : Po} {v d : Value} (H : PoMid w wr m b S g gb R hb n l cc ps os xs ys ls cs ws i c k s v d)
    (ti : Ties ps os xs ys ls cs) (hc : cs[i]? = some c) (hi : ws[i]? = some k) (hmd : k.md = .po s) (A : StAll 0 2 n (n + 2) C l T L ws) (hcc : cc ≤ C) (hC : C ≤ 1000) (h4 : ¬ 3 ≤ (poStep 0 2 n l s).ph) : PInv w wr m b S g gb R hb n (C + 1) := by
  obtain ⟨T', L', A'⟩ := A.po hi hmd (by omega)
  rw [poWk_go h4] at A'
  have H' : PA w wr m b S g gb R hb n (poMem 0 l s) (poMem 0 l s) (cc + poCount s) (cc + poCount s) ps os xs ys ls (cs.set i { c with v := v, d := d }) (wks (ws.set i ⟨.po (poStep 0 2 n l s), k.has, k.puts⟩)) := by
    rw [wks, ← pws_set]; exact H
  have hl := (List.getElem?_eq_some_iff.1 hc).1
  exact ⟨_, _, _, _, _, _, _, _, _, _, _, H', ti.turn hl ti.len (keep_at _ (ti.p i c hc)) (keep_at _ (ti.o i c hc)) ⟨fun t e => ti.x i c t hc e, fun _ _ => rfl⟩ ⟨fun t e => ti.y i c t hc e, fun _ _ => rfl⟩ (keep_at _ (ti.l i c hc)), A', by have := poCount_le s; omega⟩
theorem PInv.po_end {s : Po} {v d v3 : Value} (H : PoMid w wr m b S g gb R hb n l cc ps os xs ys ls cs ws i c k s v d)
    (ti : Ties ps os xs ys ls cs) (hc : cs[i]? = some c) (hi : ws[i]? = some k) (hmd : k.md = .po s) (hcp : c.p = none) (A : StAll 0 2 n (n + 2) C l T L ws) (hcc : cc ≤ C) (hC : C ≤ 1000) (h4 : 3 ≤ (poStep 0 2 n l s).ph) (hi4 : i < 4)
    (hu : Upd (ownB c.h) wr w') (RR : Row w.heap.size 3 w' v3 (ivals (k.has ++ (poStep 0 2 n l s).got))) (O : ∀ z ∈ ownB v3, z ∈ ownB c.h ∨ z = wr.heap.size) :
    PInv w ((w'.setCell ⟨hb, 16 + i, none⟩ v3).setCell ⟨hb, 4 + i, none⟩ (.pointer none)) m b S g gb R hb n (C + 1) := by
  have mk := A.md i k hi
  rw [hmd] at mk
  have hpu : k.puts = [] := mk.puts
  obtain ⟨T', L', A'⟩ := A.po hi hmd (by omega)
  rw [poWk_end h4, hpu] at A'
  have hl := (List.getElem?_eq_some_iff.1 hc).1
  have hki : ((wks ws).set i ⟨⟨.po (poStep 0 2 n l s), k.has, k.puts⟩, .po (poStep 0 2 n l s)⟩)[i]? = some ⟨⟨.po (poStep 0 2 n l s), k.has, k.puts⟩, .po (poStep 0 2 n l s)⟩ := List.getElem?_set_self (by simp [wks]; exact (List.getElem?_eq_some_iff.1 hi).1)
  have hci : (cs.set i { c with v := v, d := d })[i]? = some { c with v := v, d := d } := List.getElem?_set_self hl
  have H2 := (PA.take (got := (poStep 0 2 n l s).got) H hci hki hu RR O)
  rw [List.set_set, List.set_set] at H2
  have tl := ti.len
  have tl2 : Lens ps os xs ys (ls.set i v3) := ⟨tl.p, tl.o, tl.x, tl.y, by simp [tl.l]⟩
  have tl3 : Lens ps (os.set i (.pointer none)) xs ys (ls.set i v3) := ⟨tl.p, by simp [tl.o], tl.x, tl.y, by simp [tl.l]⟩
  have H3 := (H2.cell (j := 16 + i) (x := v3) (tl.set_l hi4)).cell (j := 4 + i) (x := .pointer none) (tl2.set_o hi4)
  have H' : PA w ((w'.setCell ⟨hb, 16 + i, none⟩ v3).setCell ⟨hb, 4 + i, none⟩ (.pointer none)) m b S g gb R hb n (poMem 0 l s) (poMem 0 l s) (cc + poCount s) (cc + poCount s) ps (os.set i (.pointer none)) xs ys (ls.set i v3) (cs.set i ⟨none, none, .slice none 0 0, v3, none, none, .slice none 0 0⟩) (wks (ws.set i ⟨.no, k.has ++ (poStep 0 2 n l s).got, []⟩)) := by
    rw [wks, ← pws_set]; exact H3
  exact ⟨_, _, _, _, _, _, _, _, _, _, _, H', ti.turn hl tl3 (keep_at _ (by rw [ti.p i c hc, hcp])) (set_at _ (by rw [tl.o]; exact hi4)) ⟨(fun t e => by cases e), fun _ _ => rfl⟩ ⟨(fun t e => by cases e), fun _ _ => rfl⟩ (set_at _ (by rw [tl.l]; exact hi4)), A', by have := poCount_le s; omega⟩
theorem goes_po (q : Int) {s : Po} (H : PA w wr m b S g gb R hb n l l cc cc ps os xs ys ls cs (wks ws)) (ti : Ties ps os xs ys ls cs) (A : StAll 0 2 n (n + 2) C l T L ws) (hcc : cc ≤ C) (hC : C ≤ 1000) (hc : cs[i]? = some c) (hk : ws[i]? = some k) (hmd : k.md = .po s) (hi4 : i < 4) (hn9 : n ≤ 9) :
    Calls Try.prog 54 #[.pointer (some ⟨hb, 0, none⟩), .pointer (some ⟨S, 0, none⟩), .pointer (some ⟨R, 0, none⟩), .int .i64 i, .int .i64 q] wr fun e w' => e = .returned (.bool true) ∧ PInv w w' m b S g gb R hb n (C + 1) := by
  have hks := pws_at hk
  have P := H.gang.rep i c _ hc hks
  have md := P.md
  have rmd := P.rmd
  dsimp only at md rmd
  rw [hmd] at md rmd
  obtain ⟨hcp, gp, hp, -⟩ := md
  obtain ⟨hcx, gy, hy, -⟩ := rmd
  have mk := A.md i k hk
  rw [hmd] at mk
  have hinv := mk.inv.step A.rep.ok
  have hkl : i < (wks ws).length := by simp [wks]; exact (List.getElem?_eq_some_iff.1 hk).1
  have hcl := (List.getElem?_eq_some_iff.1 hc).1
  have HPc0 : Hid ((handsOf ps os xs ys ls)[i]? = some (.pointer none)) := Lib.hid (by rw [ti.len.at_p hi4, ti.p i c hc, hcp]; rfl)
  have HPc : Hid ((handsOf ps os xs ys ls)[4 + i]? = some (.pointer (some ⟨gp, 0, none⟩))) := Lib.hid (by rw [ti.len.at_o hi4, ti.o i c hc, hp]; rfl)
  have HXc : Hid ((handsOf ps os xs ys ls)[12 + i]? = some (.pointer (some ⟨gy, 0, none⟩))) := Lib.hid (by rw [ti.len.at_y hi4, ti.y i c gy hc hy])
  have HHc : Hid ((handsOf ps os xs ys ls)[16 + i]? = some c.h) := Lib.hid (by rw [ti.len.at_l hi4, ti.l i c hc])
  have HL := Lib.hid A.rep.ok
  have HOk := Lib.hid (mk.inv.ok (by omega))
  have HG0 : Hid (s.got.length ≤ 100000) := Lib.hid (by have := mk.inv.len; have := mk.inv.c1; omega)
  have HG1 : Hid ((poStep 0 2 n l s).got.length ≤ 100000) := Lib.hid (by have := hinv.len; have := hinv.c1; omega)
  have HNh : Hid (k.has.length ≤ 1000) := Lib.hid (by
    have h1 := A.perm.length_eq
    rw [baseL_len, List.length_append] at h1
    obtain ⟨R0, h2, _⟩ := flat_set Wk.all ws i k hk
    have h3 := h2.length_eq
    rw [List.length_append] at h3
    have h4 : k.all.length = k.has.length + k.puts.length := by simp [Wk.all]
    omega)
  have HS4 : Hid (decide (s.ph < 3) = true) := Lib.hid (decide_eq_true mk.ph)
  have HC := Lib.hid hc
  have HKs := Lib.hid hks
  have HM := Lib.hid hmd
  have HP := Lib.hid hp
  have HYy := Lib.hid hy
  have HTi := Lib.hid ti
  have HA := Lib.hid A
  have HKw := Lib.hid hk
  have HCp := Lib.hid hcp
  have hk1 : Hid (((wks ws).set i ⟨⟨.po (poStep 0 2 n l s), k.has, k.puts⟩, k.md⟩)[i]? = some ⟨⟨.po (poStep 0 2 n l s), k.has, k.puts⟩, k.md⟩) := Lib.hid (List.getElem?_set_self hkl)
  have hk2 : Hid (((wks ws).set i ⟨⟨.po (poStep 0 2 n l s), k.has, k.puts⟩, .po (poStep 0 2 n l s)⟩)[i]? = some ⟨⟨.po (poStep 0 2 n l s), k.has, k.puts⟩, .po (poStep 0 2 n l s)⟩) := Lib.hid (List.getElem?_set_self hkl)
  have hc1 : Hid (∀ c' : PLoc, (cs.set i c')[i]? = some c') := Lib.hid (fun c' => List.getElem?_set_self hcl)
  have cp0 := H.hands.cellv HPc0.out
  have cp := H.hands.cellv HPc.out
  have HH := H.hands
  have i0 : (0 : Int) ≤ (i : Int) := by omega
  have i4 : (i : Int) < 4 := by omega
  clear mk P hcp hcx hc hks hk hmd hp hy ti A hkl hcl hinv
  go_enter Try.func54, Try.ntmps54
  go_wp2
  go_region_held3 (fun y => y.cell? ⟨hb, 4 + i, none⟩ = some (.pointer (some ⟨gp, 0, none⟩)) ∧ y.cell? ⟨hb, 12 + i, none⟩ = some (.pointer (some ⟨gy, 0, none⟩))) (first | exact ⟨HH.drew.cellv HPc.out, HH.drew.cellv HXc.out⟩ | exact ⟨HH.cellv HPc.out, HH.cellv HXc.out⟩)
    (first
      | (go_at_call 48; refine ((H.later (by ((repeat' (first | (with_reducible exact Keeps.refl _) | (with_reducible assumption) | (with_reducible refine Keeps.drewN ?_ _) | (with_reducible refine Keeps.drew ?_) | (with_reducible refine Keeps.alloc ?_ _) | (with_reducible refine Keeps.setCell ?_ ?_ _) | (with_reducible refine Keeps.trans ?_ (After.keeps _)) | (with_reducible refine Keeps.trans ?_ (by with_reducible assumption)) | go_size)); (first | done | fail)))).po HC.out HKs.out HM.out HP.out HL.out HOk.out (by omega)).mono ?_; rintro e w' ⟨v1, rfl, H⟩; rw [HS4.out]; have HH := H.hands)
      | (go_at_call 96; refine (H.rpo (hc1.out _) hk1.out HM.out HYy.out HL.out HOk.out HG0.out (by omega)).mono ?_; rintro e w' ⟨d1, rfl, H⟩; rw [HS4.out]; have HH := H.hands))
  have H : PoMid w w' m b S g gb R hb n l cc ps os xs ys ls cs ws i c k s v1 d1 := by
    rw [List.set_set, List.set_set] at H; exact H
  have cp := HH.cellv HPc.out
  have cx := HH.cellv HXc.out
  have fp := HH.frozen (4 + i)
  have HRp := (PA.rpoRep H (hc1.out _) hk2.out rfl HYy.out).has
  by_cases h4 : 3 ≤ (poStep 0 2 n l s).ph
  · have HD : Hid (decide (3 ≤ (poStep 0 2 n l s).ph) = true) := Lib.hid (decide_eq_true h4)
    rw [HD.out] at HRp
    have HDc : Hid ((rpopOf R (poStep 0 2 n l s).most (rpoAt (poStep 0 2 n l s)) (poStep 0 2 n l s).under (poStep 0 2 n l s).was d1 true)[6]? = some (.bool true)) := Lib.hid rfl
    go_wp2
    go_region_held3 (fun y => (y.cell? ⟨hb, 4 + i, none⟩ = some (.pointer (some ⟨gp, 0, none⟩)) ∧ y.cell? ⟨hb, 12 + i, none⟩ = some (.pointer (some ⟨gy, 0, none⟩))) ∧ y.cell? ⟨gy, 6, none⟩ = some (.bool true)) (first | exact ⟨⟨HH.drew.cellv HPc.out, HH.drew.cellv HXc.out⟩, HRp.drew.cellv HDc.out⟩ | exact ⟨⟨HH.cellv HPc.out, HH.cellv HXc.out⟩, HRp.cellv HDc.out⟩)
      (first
        | (go_at_call 49; refine (poDone_c ((PA.poRep H (hc1.out _) hk2.out rfl HP.out).later (by ((repeat' (first | (with_reducible exact Keeps.refl _) | (with_reducible assumption) | (with_reducible refine Keeps.drewN ?_ _) | (with_reducible refine Keeps.drew ?_) | (with_reducible refine Keeps.alloc ?_ _) | (with_reducible refine Keeps.setCell ?_ ?_ _) | (with_reducible refine Keeps.trans ?_ (After.keeps _)) | (with_reducible refine Keeps.trans ?_ (by with_reducible assumption)) | go_size)); (first | done | fail))))).mono ?_; rintro e w' ⟨rfl, rfl⟩; rw [HD.out])
        | (go_at_call 50; refine (got_c ((PA.poRep H (hc1.out _) hk2.out rfl HP.out).later (by ((repeat' (first | (with_reducible exact Keeps.refl _) | (with_reducible assumption) | (with_reducible refine Keeps.drewN ?_ _) | (with_reducible refine Keeps.drew ?_) | (with_reducible refine Keeps.alloc ?_ _) | (with_reducible refine Keeps.setCell ?_ ?_ _) | (with_reducible refine Keeps.trans ?_ (After.keeps _)) | (with_reducible refine Keeps.trans ?_ (by with_reducible assumption)) | go_size)); (first | done | fail)))) h4 (Nat.le_trans HG1.out (by decide))).mono ?_; rintro e w' ⟨v2, rfl, hk5, R2⟩; have H := PA.later H (Keeps.trans (by ((repeat' (first | (with_reducible exact Keeps.refl _) | (with_reducible assumption) | (with_reducible refine Keeps.drewN ?_ _) | (with_reducible refine Keeps.drew ?_) | (with_reducible refine Keeps.alloc ?_ _) | (with_reducible refine Keeps.setCell ?_ ?_ _) | (with_reducible refine Keeps.trans ?_ (After.keeps _)) | (with_reducible refine Keeps.trans ?_ (by with_reducible assumption)) | go_size)); (first | done | fail))) hk5); have HH := H.hands; have HRp := HRp.keeps (Keeps.trans (by ((repeat' (first | (with_reducible exact Keeps.refl _) | (with_reducible assumption) | (with_reducible refine Keeps.drewN ?_ _) | (with_reducible refine Keeps.drew ?_) | (with_reducible refine Keeps.alloc ?_ _) | (with_reducible refine Keeps.setCell ?_ ?_ _) | (with_reducible refine Keeps.trans ?_ (After.keeps _)) | (with_reducible refine Keeps.trans ?_ (by with_reducible assumption)) | go_size)); (first | done | fail))) hk5))
        | (go_at_call 97; refine (rgot_c (PA.rpoRep H (hc1.out _) hk2.out rfl HYy.out) h4 (Nat.le_trans HG1.out (by decide))).mono ?_; rintro e w' ⟨v3, rfl, hk6, R3⟩; have H := PA.later H hk6; have HH := H.hands; have HRp := HRp.keeps hk6; have R2 := R2.keeps hk6)
        | (go_at_call 22; refine (sameInts_yes _ _ (poStep 0 2 n l s).got _ R2.reads R3.reads (Nat.le_trans HG1.out (by decide))).mono ?_; rintro e w' ⟨rfl, hk7⟩; have H := PA.later H hk7; have HH := H.hands; have HRp := HRp.keeps hk7))
    have cp := HH.cellv HPc.out
    have cx := HH.cellv HXc.out
    have cd := HRp.cellv HDc.out
    have ch := HH.cellv HHc.out
    have RH : Row w.heap.size 3 _ c.h (ivals k.has) := (H.gang.rep i _ _ (hc1.out _) hk2.out).has
    go_wp2
    go_region_law (first
      | (refine step_append_ints (by rfl) _ _ (by rfl) _ (by rfl) (by rfl) RH R4.src (by have := HNh.out; have := HG1.out; omega) H.keeps.size ?_; intro v5 w5 R5 U5 O5; obtain ⟨a5, c5, hv5, -⟩ := R5.reads; generalize List.length _ = n5 at hv5; subst hv5; have HH5 := H.hands.upd U5 (fun hx => RH.ne H.hands (by decide) _ hx rfl); have ch := HH5.cellv HHc.out; have fh := HH5.frozen (16 + i); have cp := HH5.cellv HPc.out; have fp := HH5.frozen (4 + i))
      | (go_simp; (go_at_call 97; refine (rgot_c ((PA.rpoRep H (hc1.out _) hk2.out rfl HYy.out).keeps (by ((repeat' (first | (with_reducible exact Keeps.refl _) | (with_reducible assumption) | (with_reducible refine Keeps.drewN ?_ _) | (with_reducible refine Keeps.drew ?_) | (with_reducible refine Keeps.alloc ?_ _) | (with_reducible refine Keeps.setCell ?_ ?_ _) | (with_reducible refine Keeps.trans ?_ (After.keeps _)) | (with_reducible refine Keeps.trans ?_ (by with_reducible assumption)) | go_size)); (first | done | fail)))) h4 (Nat.le_trans HG1.out (by decide))).mono ?_; rintro e w' ⟨v4, rfl, hk8, R4⟩; have H := PA.later H (Keeps.trans (by ((repeat' (first | (with_reducible exact Keeps.refl _) | (with_reducible assumption) | (with_reducible refine Keeps.drewN ?_ _) | (with_reducible refine Keeps.drew ?_) | (with_reducible refine Keeps.alloc ?_ _) | (with_reducible refine Keeps.setCell ?_ ?_ _) | (with_reducible refine Keeps.trans ?_ (After.keeps _)) | (with_reducible refine Keeps.trans ?_ (by with_reducible assumption)) | go_size)); (first | done | fail))) hk8); have HH := H.hands; have cp := HH.cellv HPc.out; have cx := HH.cellv HXc.out; have ch := HH.cellv HHc.out; have RH : Row w.heap.size 3 _ c.h (ivals k.has) := (H.gang.rep i _ _ (hc1.out _) hk2.out).has)))
    all_goals (
      go_wp2
      go_ret
      exact ⟨rfl, PInv.po_end H HTi.out HC.out HKw.out HM.out HCp.out HA.out hcc hC h4 hi4 U5 R5 O5⟩)
  · have HD : Hid (decide (3 ≤ (poStep 0 2 n l s).ph) = false) := Lib.hid (decide_eq_false h4)
    have h5 : (poStep 0 2 n l s).ph < 3 := by omega
    rw [HD.out] at HRp
    have HDc : Hid ((rpopOf R (poStep 0 2 n l s).most (rpoAt (poStep 0 2 n l s)) (poStep 0 2 n l s).under (poStep 0 2 n l s).was d1 false)[6]? = some (.bool false)) := Lib.hid rfl
    have RN := Row.nil w.heap.size 3 w'
    go_wp2
    go_region_held3 (fun y => (y.cell? ⟨hb, 4 + i, none⟩ = some (.pointer (some ⟨gp, 0, none⟩)) ∧ y.cell? ⟨hb, 12 + i, none⟩ = some (.pointer (some ⟨gy, 0, none⟩))) ∧ y.cell? ⟨gy, 6, none⟩ = some (.bool false)) (first | exact ⟨⟨HH.drew.cellv HPc.out, HH.drew.cellv HXc.out⟩, HRp.drew.cellv HDc.out⟩ | exact ⟨⟨HH.cellv HPc.out, HH.cellv HXc.out⟩, HRp.cellv HDc.out⟩)
      (first
        | (go_at_call 49; refine (poDone_c ((PA.poRep H (hc1.out _) hk2.out rfl HP.out).later (by ((repeat' (first | (with_reducible exact Keeps.refl _) | (with_reducible assumption) | (with_reducible refine Keeps.drewN ?_ _) | (with_reducible refine Keeps.drew ?_) | (with_reducible refine Keeps.alloc ?_ _) | (with_reducible refine Keeps.setCell ?_ ?_ _) | (with_reducible refine Keeps.trans ?_ (After.keeps _)) | (with_reducible refine Keeps.trans ?_ (by with_reducible assumption)) | go_size)); (first | done | fail))))).mono ?_; rintro e w' ⟨rfl, rfl⟩; rw [HD.out])
        | (go_at_call 50; refine (got_no ((PA.poRep H (hc1.out _) hk2.out rfl HP.out).later (by ((repeat' (first | (with_reducible exact Keeps.refl _) | (with_reducible assumption) | (with_reducible refine Keeps.drewN ?_ _) | (with_reducible refine Keeps.drew ?_) | (with_reducible refine Keeps.alloc ?_ _) | (with_reducible refine Keeps.setCell ?_ ?_ _) | (with_reducible refine Keeps.trans ?_ (After.keeps _)) | (with_reducible refine Keeps.trans ?_ (by with_reducible assumption)) | go_size)); (first | done | fail)))) h5).mono ?_; rintro e w' ⟨rfl, rfl⟩)
        | (go_at_call 97; refine (rgot_no ((PA.rpoRep H (hc1.out _) hk2.out rfl HYy.out).keeps (by ((repeat' (first | (with_reducible exact Keeps.refl _) | (with_reducible assumption) | (with_reducible refine Keeps.drewN ?_ _) | (with_reducible refine Keeps.drew ?_) | (with_reducible refine Keeps.alloc ?_ _) | (with_reducible refine Keeps.setCell ?_ ?_ _) | (with_reducible refine Keeps.trans ?_ (After.keeps _)) | (with_reducible refine Keeps.trans ?_ (by with_reducible assumption)) | go_size)); (first | done | fail)))) h5).mono ?_; rintro e w' ⟨rfl, rfl⟩)
        | (go_at_call 22; refine (sameInts_yes _ _ [] _ (RN.keeps (by ((repeat' (first | (with_reducible exact Keeps.refl _) | (with_reducible assumption) | (with_reducible refine Keeps.drewN ?_ _) | (with_reducible refine Keeps.drew ?_) | (with_reducible refine Keeps.alloc ?_ _) | (with_reducible refine Keeps.setCell ?_ ?_ _) | (with_reducible refine Keeps.trans ?_ (After.keeps _)) | (with_reducible refine Keeps.trans ?_ (by with_reducible assumption)) | go_size)); (first | done | fail)))).reads (RN.keeps (by ((repeat' (first | (with_reducible exact Keeps.refl _) | (with_reducible assumption) | (with_reducible refine Keeps.drewN ?_ _) | (with_reducible refine Keeps.drew ?_) | (with_reducible refine Keeps.alloc ?_ _) | (with_reducible refine Keeps.setCell ?_ ?_ _) | (with_reducible refine Keeps.trans ?_ (After.keeps _)) | (with_reducible refine Keeps.trans ?_ (by with_reducible assumption)) | go_size)); (first | done | fail)))).reads (by simp)).mono ?_; rintro e w' ⟨rfl, hk7⟩; have H := PA.later H (Keeps.trans (by ((repeat' (first | (with_reducible exact Keeps.refl _) | (with_reducible assumption) | (with_reducible refine Keeps.drewN ?_ _) | (with_reducible refine Keeps.drew ?_) | (with_reducible refine Keeps.alloc ?_ _) | (with_reducible refine Keeps.setCell ?_ ?_ _) | (with_reducible refine Keeps.trans ?_ (After.keeps _)) | (with_reducible refine Keeps.trans ?_ (by with_reducible assumption)) | go_size)); (first | done | fail))) hk7); have HH := H.hands; have HRp := HRp.keeps (Keeps.trans (by ((repeat' (first | (with_reducible exact Keeps.refl _) | (with_reducible assumption) | (with_reducible refine Keeps.drewN ?_ _) | (with_reducible refine Keeps.drew ?_) | (with_reducible refine Keeps.alloc ?_ _) | (with_reducible refine Keeps.setCell ?_ ?_ _) | (with_reducible refine Keeps.trans ?_ (After.keeps _)) | (with_reducible refine Keeps.trans ?_ (by with_reducible assumption)) | go_size)); (first | done | fail))) hk7)))
    have cx := HH.cellv HXc.out
    have cd := HRp.cellv HDc.out
    go_wp2
    go_ret
    exact ⟨rfl, PInv.po_go H HTi.out HC.out HKw.out HM.out HA.out hcc hC h4⟩
end
end Go.Proofs.Ytcohhfndaogikaa
