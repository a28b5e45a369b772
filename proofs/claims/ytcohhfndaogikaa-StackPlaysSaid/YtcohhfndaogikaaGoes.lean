/- goes, walked: a Push, a Pop goes on. -/
import Derived.Test.YtcohhfndaogikaaPSame
import Derived.Test.YtcohhfndaogikaaSame
import Derived.Deep.RegionHeld3
import Derived.Deep.RegionLaw
namespace Go.Proofs.Ytcohhfndaogikaa
set_option linter.unusedVariables false
set_option linter.unusedSimpArgs false
open Go Go.RowKit
set_option maxRecDepth 100000
set_option maxHeartbeats 2000000

abbrev wks (ws : List Wk) : List PWk := ws.map fun k => ⟨k, k.md⟩
section
variable {w wr w' : World} {m b S g gb R hb n : Nat} {l l2 : List Int} {cc c2 C : Int} {ps os xs ys ls : List Value} {cs : List PLoc} {ks : List PWk} {ws : List Wk} {L : List Int} {i t T : Nat} {c : PLoc} {q : PWk} {k : Wk}
theorem PA.puRep {s : Pu} (h : PA w wr m b S g gb R hb n l l2 cc c2 ps os xs ys ls cs ks) (hc : cs[i]? = some c) (hk : ks[i]? = some q) (hmd : q.k.md = .pu s) (hg : c.p = some t) : PuRep wr w.heap.size t S c.v s := by
  have md := (h.gang.rep i c q hc hk).md
  rw [hmd] at md
  obtain ⟨_, g', e, hr⟩ := md
  rw [hg] at e; cases e
  exact hr
theorem PA.poRep {s : Po} (h : PA w wr m b S g gb R hb n l l2 cc c2 ps os xs ys ls cs ks) (hc : cs[i]? = some c) (hk : ks[i]? = some q) (hmd : q.k.md = .po s) (hg : c.o = some t) : PoRep wr w.heap.size t S c.v s := by
  have md := (h.gang.rep i c q hc hk).md
  rw [hmd] at md
  obtain ⟨_, g', e, hr⟩ := md
  rw [hg] at e; cases e
  exact hr
theorem PA.rpuRep {s : Pu} (h : PA w wr m b S g gb R hb n l l2 cc c2 ps os xs ys ls cs ks) (hc : cs[i]? = some c) (hk : ks[i]? = some q) (hmd : q.r = .pu s) (hg : c.x = some t) : RPuRep wr w.heap.size t R c.d s := by
  have md := (h.gang.rep i c q hc hk).rmd
  rw [hmd] at md
  obtain ⟨_, g', e, hr⟩ := md
  rw [hg] at e; cases e
  exact hr
theorem PA.rpoRep {s : Po} (h : PA w wr m b S g gb R hb n l l2 cc c2 ps os xs ys ls cs ks) (hc : cs[i]? = some c) (hk : ks[i]? = some q) (hmd : q.r = .po s) (hg : c.y = some t) : RPoRep wr w.heap.size t R c.d s := by
  have md := (h.gang.rep i c q hc hk).rmd
  rw [hmd] at md
  obtain ⟨_, g', e, hr⟩ := md
  rw [hg] at e; cases e
  exact hr
theorem puCount_le (s : Pu) : puCount s ≤ 1 := by unfold puCount; split <;> decide
theorem poCount_le (s : Po) : poCount s ≤ 1 := by unfold poCount; split <;> decide
theorem puWk_go {s : Pu} (h : ¬ 4 ≤ s.ph) : puWk s k = ⟨.pu s, k.has, k.puts⟩ := by unfold puWk; rw [if_neg h]
theorem puWk_end {s : Pu} (h : 4 ≤ s.ph) : puWk s k = ⟨.no, k.has, []⟩ := by unfold puWk; rw [if_pos h]
theorem poWk_go {s : Po} (h : ¬ 3 ≤ s.ph) : poWk s k = ⟨.po s, k.has, k.puts⟩ := by unfold poWk; rw [if_neg h]
theorem poWk_end {s : Po} (h : 3 ≤ s.ph) : poWk s k = ⟨.no, k.has ++ s.got, k.puts⟩ := by unfold poWk; rw [if_pos h]
theorem PInv.pu_go {s : Pu} (H : PA w wr m b S g gb R hb n (puMem 0 2 n l s) (puMem 0 2 n l s) (cc + puCount s) (cc + puCount s) ps os xs ys ls cs (((wks ws).set i ⟨⟨.pu (puStep 0 l s), k.has, k.puts⟩, k.md⟩).set i ⟨⟨.pu (puStep 0 l s), k.has, k.puts⟩, .pu (puStep 0 l s)⟩))
    (ti : Ties ps os xs ys ls cs) (hi : ws[i]? = some k) (hmd : k.md = .pu s) (A : StAll 0 2 n (n + 2) C l T L ws) (hcc : cc ≤ C) (hC : C ≤ 1000) (h4 : ¬ 4 ≤ (puStep 0 l s).ph) : PInv w wr m b S g gb R hb n (C + 1) := by
  obtain ⟨T', L', A'⟩ := A.pu hi hmd (by omega)
  rw [puWk_go h4] at A'
  rw [List.set_set] at H
  have H' : PA w wr m b S g gb R hb n (puMem 0 2 n l s) (puMem 0 2 n l s) (cc + puCount s) (cc + puCount s) ps os xs ys ls cs (wks (ws.set i ⟨.pu (puStep 0 l s), k.has, k.puts⟩)) := by
    rw [wks, ← pws_set]; exact H
  exact ⟨_, _, _, _, _, _, _, _, _, _, _, H', ti, A', by have := puCount_le s; omega⟩
theorem PInv.pu_end {s : Pu} (H : PA w wr m b S g gb R hb n (puMem 0 2 n l s) (puMem 0 2 n l s) (cc + puCount s) (cc + puCount s) ps os xs ys ls cs (((wks ws).set i ⟨⟨.pu (puStep 0 l s), k.has, k.puts⟩, k.md⟩).set i ⟨⟨.pu (puStep 0 l s), k.has, k.puts⟩, .pu (puStep 0 l s)⟩))
    (ti : Ties ps os xs ys ls cs) (hc : cs[i]? = some c) (hi : ws[i]? = some k) (hmd : k.md = .pu s) (hco : c.o = none) (A : StAll 0 2 n (n + 2) C l T L ws) (hcc : cc ≤ C) (hC : C ≤ 1000) (h4 : 4 ≤ (puStep 0 l s).ph) (hi4 : i < 4) : PInv w (wr.setCell ⟨hb, i, none⟩ (.pointer none)) m b S g gb R hb n (C + 1) := by
  obtain ⟨T', L', A'⟩ := A.pu hi hmd (by omega)
  rw [puWk_end h4] at A'
  rw [List.set_set] at H
  have hki : ((wks ws).set i ⟨⟨.pu (puStep 0 l s), k.has, k.puts⟩, .pu (puStep 0 l s)⟩)[i]? = some ⟨⟨.pu (puStep 0 l s), k.has, k.puts⟩, .pu (puStep 0 l s)⟩ := List.getElem?_set_self (by simp [wks]; exact (List.getElem?_eq_some_iff.1 hi).1)
  have H2 := (H.cell (j := i) (x := .pointer none) (ti.len.set_p hi4)).free hc hki
  rw [List.set_set] at H2
  have H' : PA w (wr.setCell ⟨hb, i, none⟩ (.pointer none)) m b S g gb R hb n (puMem 0 2 n l s) (puMem 0 2 n l s) (cc + puCount s) (cc + puCount s) (ps.set i (.pointer none)) os xs ys ls (cs.set i ⟨none, none, .slice none 0 0, c.h, none, none, .slice none 0 0⟩) (wks (ws.set i ⟨.no, k.has, []⟩)) := by
    rw [wks, ← pws_set]; exact H2
  have hl := (List.getElem?_eq_some_iff.1 hc).1
  refine ⟨_, _, _, _, _, _, _, _, _, _, _, H', ti.turn hl ⟨by simp [ti.len.p], ti.len.o, ti.len.x, ti.len.y, ti.len.l⟩ (set_at _ (by rw [ti.len.p]; exact hi4)) (keep_at _ (by rw [ti.o i c hc, hco])) ⟨(fun t e => by cases e), fun _ _ => rfl⟩ ⟨(fun t e => by cases e), fun _ _ => rfl⟩ (keep_at _ (ti.l i c hc)), A', by have := puCount_le s; omega⟩
theorem goes_pu (q : Int) {s : Pu} (H : PA w wr m b S g gb R hb n l l cc cc ps os xs ys ls cs (wks ws)) (ti : Ties ps os xs ys ls cs) (A : StAll 0 2 n (n + 2) C l T L ws) (hcc : cc ≤ C) (hC : C ≤ 1000) (hc : cs[i]? = some c) (hk : ws[i]? = some k) (hmd : k.md = .pu s) (hi4 : i < 4) :
    Calls Try.prog 54 #[.pointer (some ⟨hb, 0, none⟩), .pointer (some ⟨S, 0, none⟩), .pointer (some ⟨R, 0, none⟩), .int .i64 i, .int .i64 q] wr fun e w' => e = .returned (.bool true) ∧ PInv w w' m b S g gb R hb n (C + 1) := by
  have hks := pws_at hk
  have P := H.gang.rep i c _ hc hks
  have md := P.md
  have rmd := P.rmd
  dsimp only at md rmd
  rw [hmd] at md rmd
  obtain ⟨hco, gp, hp, -⟩ := md
  obtain ⟨hcy, gx, hx, -⟩ := rmd
  have mk := A.md i k hk
  rw [hmd] at mk
  have hkl : i < (wks ws).length := by simp [wks]; exact (List.getElem?_eq_some_iff.1 hk).1
  have HPc : Hid ((handsOf ps os xs ys ls)[i]? = some (.pointer (some ⟨gp, 0, none⟩))) := Lib.hid (by rw [ti.len.at_p hi4, ti.p i c hc, hp]; rfl)
  have HXc : Hid ((handsOf ps os xs ys ls)[8 + i]? = some (.pointer (some ⟨gx, 0, none⟩))) := Lib.hid (by rw [ti.len.at_x hi4, ti.x i c gx hc hx])
  have HL := Lib.hid A.rep.ok
  have HOk := Lib.hid (mk.inv.ok (by omega))
  have HS4 : Hid (decide (s.ph < 4) = true) := Lib.hid (decide_eq_true mk.ph)
  have HC := Lib.hid hc
  have HKs := Lib.hid hks
  have HM := Lib.hid hmd
  have HP := Lib.hid hp
  have HXx := Lib.hid hx
  have HTi := Lib.hid ti
  have HA := Lib.hid A
  have HKw := Lib.hid hk
  have HCo := Lib.hid hco
  have hk1 : Hid (((wks ws).set i ⟨⟨.pu (puStep 0 l s), k.has, k.puts⟩, k.md⟩)[i]? = some ⟨⟨.pu (puStep 0 l s), k.has, k.puts⟩, k.md⟩) := Lib.hid (List.getElem?_set_self hkl)
  have hk2 : Hid ((((wks ws).set i ⟨⟨.pu (puStep 0 l s), k.has, k.puts⟩, k.md⟩).set i ⟨⟨.pu (puStep 0 l s), k.has, k.puts⟩, .pu (puStep 0 l s)⟩)[i]? = some ⟨⟨.pu (puStep 0 l s), k.has, k.puts⟩, .pu (puStep 0 l s)⟩) := Lib.hid (List.getElem?_set_self (by simpa using hkl))
  have cp := H.hands.cellv HPc.out
  have HH := H.hands
  have i0 : (0 : Int) ≤ (i : Int) := by omega
  have i4 : (i : Int) < 4 := by omega
  clear mk P hco hcy hc hks hk hmd hp hx ti A hkl
  go_enter Try.func54, Try.ntmps54
  go_wp2
  go_region_held3 (fun y => y.cell? ⟨hb, i, none⟩ = some (.pointer (some ⟨gp, 0, none⟩)) ∧ y.cell? ⟨hb, 8 + i, none⟩ = some (.pointer (some ⟨gx, 0, none⟩))) (first | exact ⟨HH.drew.cellv HPc.out, HH.drew.cellv HXc.out⟩ | exact ⟨HH.cellv HPc.out, HH.cellv HXc.out⟩)
    (first
      | (go_at_call 56; refine ((H.later (by ((repeat' (first | (with_reducible exact Keeps.refl _) | (with_reducible assumption) | (with_reducible refine Keeps.drewN ?_ _) | (with_reducible refine Keeps.drew ?_) | (with_reducible refine Keeps.alloc ?_ _) | (with_reducible refine Keeps.setCell ?_ ?_ _) | (with_reducible refine Keeps.trans ?_ (After.keeps _)) | (with_reducible refine Keeps.trans ?_ (by with_reducible assumption)) | go_size)); (first | done | fail)))).pu HC.out HKs.out HM.out HP.out HL.out HOk.out (by omega)).mono ?_; rintro e w' ⟨rfl, H⟩; rw [HS4.out]; have HH := H.hands)
      | (go_at_call 95; refine (H.rpu HC.out hk1.out HM.out HXx.out HL.out HOk.out (by omega)).mono ?_; rintro e w' ⟨rfl, H⟩; rw [HS4.out]; have HH := H.hands))
  have cp := HH.cellv HPc.out
  have cx := HH.cellv HXc.out
  have fp := HH.frozen i
  by_cases h4 : 4 ≤ (puStep 0 l s).ph
  · have HD : Hid (decide (4 ≤ (puStep 0 l s).ph) = true) := Lib.hid (decide_eq_true h4)
    have HRp := (H.rpuRep HC.out hk2.out rfl HXx.out).has
    rw [HD.out] at HRp
    have cd := HRp.cell 4
    simp only [List.getElem?_toArray, List.getElem?_cons_zero, List.getElem?_cons_succ] at cd
    have HDn := Lib.hid (fun k => Calls.quiet_of_same ((puDone_c ((H.puRep HC.out hk2.out rfl HP.out).keeps (Keeps.of_drewN k))).mono fun _ _ ⟨p, q⟩ => ⟨p, q.symm⟩))
    rw [HD.out] at HDn
    go_wp2
    go_quiet ((go_at_call 57; with_reducible exact HDn.out _))
    go_wp2
    generalize hW : w'.drewN _ = W1 at *
    have hk : Keeps w' W1 := by rw [← hW]; ((repeat' (first | (with_reducible exact Keeps.refl _) | (with_reducible assumption) | (with_reducible refine Keeps.drewN ?_ _) | (with_reducible refine Keeps.drew ?_) | (with_reducible refine Keeps.alloc ?_ _) | (with_reducible refine Keeps.setCell ?_ ?_ _) | (with_reducible refine Keeps.trans ?_ (After.keeps _)) | (with_reducible refine Keeps.trans ?_ (by with_reducible assumption)) | go_size)); (first | done | fail))
    clear hW
    have H := H.later hk
    go_ret
    exact ⟨rfl, PInv.pu_end H HTi.out HC.out HKw.out HM.out HCo.out HA.out hcc hC h4 hi4⟩
  · have HD : Hid (decide (4 ≤ (puStep 0 l s).ph) = false) := Lib.hid (decide_eq_false h4)
    have HRp := (H.rpuRep HC.out hk2.out rfl HXx.out).has
    rw [HD.out] at HRp
    have cd := HRp.cell 4
    simp only [List.getElem?_toArray, List.getElem?_cons_zero, List.getElem?_cons_succ] at cd
    have HDn := Lib.hid (fun k => Calls.quiet_of_same ((puDone_c ((H.puRep HC.out hk2.out rfl HP.out).keeps (Keeps.of_drewN k))).mono fun _ _ ⟨p, q⟩ => ⟨p, q.symm⟩))
    rw [HD.out] at HDn
    go_wp2
    go_quiet ((go_at_call 57; with_reducible exact HDn.out _))
    go_wp2
    generalize hW : w'.drewN _ = W1 at *
    have hk : Keeps w' W1 := by rw [← hW]; ((repeat' (first | (with_reducible exact Keeps.refl _) | (with_reducible assumption) | (with_reducible refine Keeps.drewN ?_ _) | (with_reducible refine Keeps.drew ?_) | (with_reducible refine Keeps.alloc ?_ _) | (with_reducible refine Keeps.setCell ?_ ?_ _) | (with_reducible refine Keeps.trans ?_ (After.keeps _)) | (with_reducible refine Keeps.trans ?_ (by with_reducible assumption)) | go_size)); (first | done | fail))
    clear hW
    have H := H.later hk
    go_ret
    exact ⟨rfl, PInv.pu_go H HTi.out HKw.out HM.out HA.out hcc hC h4⟩
end
end Go.Proofs.Ytcohhfndaogikaa
