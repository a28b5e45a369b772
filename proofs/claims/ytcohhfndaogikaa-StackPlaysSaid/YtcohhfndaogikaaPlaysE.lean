/- The relation of StackPlays: machines that begin and end, the cells of hands. -/
import Derived.Test.YtcohhfndaogikaaPlays
namespace Go.Proofs.Ytcohhfndaogikaa
set_option linter.unusedVariables false
set_option linter.unusedSimpArgs false
open Go Go.RowKit
set_option maxRecDepth 100000
set_option maxHeartbeats 1000000

section
variable {w wr w' : World} {m b S g gb R hb n : Nat} {l l2 : List Int} {cc c2 : Int} {ps os xs ys ls : List Value} {cs : List PLoc} {ks : List PWk} {T : List Nat} {i t : Nat} {c c' : PLoc} {q q' : PWk}
theorem PA.less (h : PA w wr m b S g gb R hb n l l2 cc c2 ps os xs ys ls cs ks) (hc : cs[i]? = some c) (hk : ks[i]? = some q) (hr : PkRep w.heap.size S R wr c' q') (hsub : List.Sublist c'.foot c.foot) :
    PA w wr m b S g gb R hb n l l2 cc c2 ps os xs ys ls (cs.set i c') (ks.set i q') :=
  h.turn hc hk (Upd.refl [] wr) (by simp) hr ((h.gang.foot_nd hc).sublist hsub) (fun y hy => ⟨.inl (hsub.subset hy), (h.gang.foot_own hc y (hsub.subset hy)).2⟩)
/-- He has no machine any more. -/
theorem PA.free (h : PA w wr m b S g gb R hb n l l2 cc c2 ps os xs ys ls cs ks) (hc : cs[i]? = some c) (hk : ks[i]? = some q) :
    PA w wr m b S g gb R hb n l l2 cc c2 ps os xs ys ls (cs.set i ⟨none, none, .slice none 0 0, c.h, none, none, .slice none 0 0⟩) (ks.set i ⟨⟨.no, q.k.has, []⟩, .no⟩) := by
  obtain ⟨md, rmd, rh⟩ := h.gang.rep i c q hc hk
  refine h.less hc hk ⟨⟨rfl, rfl, rfl⟩, ⟨rfl, rfl, rfl⟩, rh⟩ ?_
  have e : (⟨none, none, .slice none 0 0, c.h, none, none, .slice none 0 0⟩ : PLoc).foot = ownB c.h := by simp [PLoc.foot, PLoc.segs]
  rw [e]
  have e2 : c.foot = (c.p.toList ++ (c.o.toList ++ ownB c.v)) ++ (ownB c.h ++ (c.x.toList ++ (c.y.toList ++ ownB c.d))) := by simp [PLoc.foot, PLoc.segs]
  rw [e2]
  exact (List.sublist_append_left _ _).trans (List.sublist_append_right _ _)
/-- What his Pop got is his, in a slice that has grown. -/
theorem PA.take (h : PA w wr m b S g gb R hb n l l2 cc c2 ps os xs ys ls cs ks) (hc : cs[i]? = some c) (hk : ks[i]? = some q) {v3 : Value} {got : List Int} (hu : Upd (ownB c.h) wr w') (RR : Row w.heap.size 3 w' v3 (ivals (q.k.has ++ got))) (O : ∀ z ∈ ownB v3, z ∈ ownB c.h ∨ z = wr.heap.size) :
    PA w w' m b S g gb R hb n l l2 cc c2 ps os xs ys ls (cs.set i ⟨none, none, .slice none 0 0, v3, none, none, .slice none 0 0⟩) (ks.set i ⟨⟨.no, q.k.has ++ got, []⟩, .no⟩) := by
  have e : (⟨none, none, .slice none 0 0, v3, none, none, .slice none 0 0⟩ : PLoc).foot = ownB v3 := by simp [PLoc.foot, PLoc.segs]
  refine h.turn hc hk hu (fun y hy => PLoc.in_h hy) ⟨⟨rfl, rfl, rfl⟩, ⟨rfl, rfl, rfl⟩, RR⟩ (by rw [e]; exact ownB_nodup _) ?_
  rw [e]
  intro y hy
  have h2 := (RR.own y hy).2
  rcases O y hy with h1 | h1
  · exact ⟨.inl (PLoc.in_h h1), h2⟩
  · exact ⟨.inr (by omega), h2⟩
/-- What is new lies in new memory. -/
theorem PA.fresh (h : PA w wr m b S g gb R hb n l l2 cc c2 ps os xs ys ls cs ks) (hc : cs[i]? = some c) (hk : ks[i]? = some q) (hkp : Keeps wr w') {f : List Nat} (hr : PkRep w.heap.size S R w' c' q') (hp : c'.foot.Perm (f ++ c.foot)) (hn : f.Nodup) (hf : ∀ y ∈ f, wr.heap.size ≤ y ∧ y < w'.heap.size) :
    PA w w' m b S g gb R hb n l l2 cc c2 ps os xs ys ls (cs.set i c') (ks.set i q') := by
  have own := h.gang.foot_own hc
  have hsz := hkp.size
  refine h.turn hc hk (Upd.of_keeps (S := []) hkp) (by simp) hr ?_ ?_
  · rw [hp.nodup_iff, List.nodup_append]
    exact ⟨hn, h.gang.foot_nd hc, fun a ha b hb e => by subst e; have := hf a ha; have := own a hb; omega⟩
  · intro y hy
    rcases List.mem_append.1 (hp.mem_iff.1 hy) with h1 | h1
    · exact ⟨.inr (hf y h1).1, (hf y h1).2⟩
    · have := own y h1; exact ⟨.inl h1, by omega⟩
theorem PkRep.keeps (h : PkRep w.heap.size S R wr c q) (hk : Keeps wr w') : PkRep w.heap.size S R w' c q := (pkFrames _ _ _) h (Upd.of_keeps (S := []) hk) (fun _ _ => by simp)
theorem PA.newPu {s : Pu} {v : Value} (h : PA w wr m b S g gb R hb n l l2 cc c2 ps os xs ys ls cs ks) (hc : cs[i]? = some c) (hk : ks[i]? = some q) (hmd : q.k.md = .no) (hkp : Keeps wr w') (hg : wr.heap.size ≤ t) (hr : PuRep w' wr.heap.size t S v s) :
    PA w w' m b S g gb R hb n l l2 cc c2 ps os xs ys ls (cs.set i { c with p := some t, v := v }) (ks.set i ⟨⟨.pu s, q.k.has, q.k.puts⟩, q.r⟩) := by
  have P := (h.gang.rep i c q hc hk).keeps hkp
  have md := P.md
  rw [hmd] at md
  obtain ⟨m1, m2, m3⟩ := md
  have hB := h.keeps.size
  refine h.fresh hc hk hkp (f := t :: ownB v) ⟨⟨m2, t, rfl, ⟨hr.has, hr.row.mono hB⟩⟩, ?_, P.has⟩ ?_ ?_ ?_
  · have := P.rmd; cases hq : q.r <;> rw [hq] at this <;> exact this
  · simp only [PLoc.foot, PLoc.segs, m1, m2, m3, ownB_nil, Option.toList_none, Option.toList_some, List.flatten_cons, List.flatten_nil, List.nil_append, List.append_nil, List.cons_append]
    exact List.Perm.refl _
  · exact List.nodup_cons.2 ⟨fun hm => hr.row.ne hr.has (by decide) t hm rfl, ownB_nodup _⟩
  · intro y hy
    rcases List.mem_cons.1 hy with rfl | hy
    · exact ⟨hg, hr.has.lt⟩
    · exact hr.row.own y hy
theorem PA.newPo {s : Po} (h : PA w wr m b S g gb R hb n l l2 cc c2 ps os xs ys ls cs ks) (hc : cs[i]? = some c) (hk : ks[i]? = some q) (hmd : q.k.md = .no) (hkp : Keeps wr w') (hg : wr.heap.size ≤ t) (hr : PoRep w' wr.heap.size t S (.slice none 0 0) s) :
    PA w w' m b S g gb R hb n l l2 cc c2 ps os xs ys ls (cs.set i { c with o := some t, v := .slice none 0 0 }) (ks.set i ⟨⟨.po s, q.k.has, q.k.puts⟩, q.r⟩) := by
  have P := (h.gang.rep i c q hc hk).keeps hkp
  have md := P.md
  rw [hmd] at md
  obtain ⟨m1, m2, m3⟩ := md
  have hB := h.keeps.size
  refine h.fresh hc hk hkp (f := [t]) ⟨⟨m1, t, rfl, ⟨hr.has, hr.row.mono hB⟩⟩, ?_, P.has⟩ ?_ ?_ ?_
  · have := P.rmd; cases hq : q.r <;> rw [hq] at this <;> exact this
  · simp only [PLoc.foot, PLoc.segs, m1, m2, m3, ownB_nil, Option.toList_none, Option.toList_some, List.flatten_cons, List.flatten_nil, List.nil_append, List.append_nil, List.cons_append]
    exact List.Perm.refl _
  · simp
  · intro y hy
    obtain rfl := List.mem_singleton.1 hy
    exact ⟨hg, hr.has.lt⟩
theorem PA.newRPu {s : Pu} {v : Value} (h : PA w wr m b S g gb R hb n l l2 cc c2 ps os xs ys ls cs ks) (hc : cs[i]? = some c) (hk : ks[i]? = some q) (hmd : q.r = .no) (hkp : Keeps wr w') (hg : wr.heap.size ≤ t) (hr : RPuRep w' wr.heap.size t R v s) :
    PA w w' m b S g gb R hb n l l2 cc c2 ps os xs ys ls (cs.set i { c with x := some t, d := v }) (ks.set i ⟨q.k, .pu s⟩) := by
  have P := (h.gang.rep i c q hc hk).keeps hkp
  have md := P.rmd
  rw [hmd] at md
  obtain ⟨m1, m2, m3⟩ := md
  have hB := h.keeps.size
  refine h.fresh hc hk hkp (f := t :: ownB v) ⟨?_, ⟨m2, t, rfl, ⟨hr.has, hr.row.mono hB⟩⟩, P.has⟩ ?_ ?_ ?_
  · have := P.md; cases hq : q.k.md <;> rw [hq] at this <;> exact this
  · simp only [PLoc.foot, PLoc.segs, m1, m2, m3, ownB_nil, Option.toList_none, Option.toList_some, List.flatten_cons, List.flatten_nil, List.nil_append, List.append_nil]
    have e : c.p.toList ++ (c.o.toList ++ (ownB c.v ++ (ownB c.h ++ ([t] ++ ownB v)))) = (c.p.toList ++ (c.o.toList ++ (ownB c.v ++ ownB c.h))) ++ ([t] ++ ownB v) := by simp
    rw [e]
    exact List.perm_append_comm
  · exact List.nodup_cons.2 ⟨fun hm => hr.row.ne hr.has (by decide) t hm rfl, ownB_nodup _⟩
  · intro y hy
    rcases List.mem_cons.1 hy with rfl | hy
    · exact ⟨hg, hr.has.lt⟩
    · exact hr.row.own y hy
theorem PA.newRPo {s : Po} (h : PA w wr m b S g gb R hb n l l2 cc c2 ps os xs ys ls cs ks) (hc : cs[i]? = some c) (hk : ks[i]? = some q) (hmd : q.r = .no) (hkp : Keeps wr w') (hg : wr.heap.size ≤ t) (hr : RPoRep w' wr.heap.size t R (.slice none 0 0) s) :
    PA w w' m b S g gb R hb n l l2 cc c2 ps os xs ys ls (cs.set i { c with y := some t, d := .slice none 0 0 }) (ks.set i ⟨q.k, .po s⟩) := by
  have P := (h.gang.rep i c q hc hk).keeps hkp
  have md := P.rmd
  rw [hmd] at md
  obtain ⟨m1, m2, m3⟩ := md
  have hB := h.keeps.size
  refine h.fresh hc hk hkp (f := [t]) ⟨?_, ⟨m1, t, rfl, ⟨hr.has, hr.row.mono hB⟩⟩, P.has⟩ ?_ ?_ ?_
  · have := P.md; cases hq : q.k.md <;> rw [hq] at this <;> exact this
  · simp only [PLoc.foot, PLoc.segs, m1, m2, m3, ownB_nil, Option.toList_none, Option.toList_some, List.flatten_cons, List.flatten_nil, List.nil_append, List.append_nil]
    have e : c.p.toList ++ (c.o.toList ++ (ownB c.v ++ (ownB c.h ++ [t]))) = (c.p.toList ++ (c.o.toList ++ (ownB c.v ++ ownB c.h))) ++ [t] := by simp
    rw [e]
    exact List.perm_append_comm
  · simp
  · intro y hy
    obtain rfl := List.mem_singleton.1 hy
    exact ⟨hg, hr.has.lt⟩
/-- What he has lies in new memory. -/
theorem PA.newH {v : Value} {zs : List Int} (h : PA w wr m b S g gb R hb n l l2 cc c2 ps os xs ys ls cs ks) (hc : cs[i]? = some c) (hk : ks[i]? = some q) (hkp : Keeps wr w') (RR : Row wr.heap.size 3 w' v (ivals zs)) :
    PA w w' m b S g gb R hb n l l2 cc c2 ps os xs ys ls (cs.set i { c with h := v }) (ks.set i ⟨⟨q.k.md, zs, q.k.puts⟩, q.r⟩) := by
  have P := (h.gang.rep i c q hc hk).keeps hkp
  have hB := h.keeps.size
  obtain ⟨q1, q2⟩ := h.seg (w' := w') (c' := { c with h := v }) hc 3 (ownB v) rfl rfl (ownB_nodup _) (fun y hy => ⟨.inr (RR.own y hy).1, (RR.own y hy).2⟩) hkp.size
  refine h.turn hc hk (Upd.of_keeps (S := []) hkp) (by simp) ⟨?_, ?_, RR.mono hB⟩ q1 q2
  · have := P.md; cases hq : q.k.md <;> rw [hq] at this <;> exact this
  · have := P.rmd; cases hq : q.r <;> rw [hq] at this <;> exact this
/-- What he puts is no slice of his. -/
theorem PA.puts (h : PA w wr m b S g gb R hb n l l2 cc c2 ps os xs ys ls cs ks) (hc : cs[i]? = some c) (hk : ks[i]? = some q) (zs : List Int) : PA w wr m b S g gb R hb n l l2 cc c2 ps os xs ys ls cs (ks.set i ⟨⟨q.k.md, q.k.has, zs⟩, q.r⟩) := by
  have P := h.gang.rep i c q hc hk
  have := h.less (c' := c) (q' := ⟨⟨q.k.md, q.k.has, zs⟩, q.r⟩) hc hk ⟨P.md, P.rmd, P.has⟩ (List.Sublist.refl _)
  rwa [setIdx_same hc] at this
/-- A cell of hands turns. -/
theorem PA.cell (h : PA w wr m b S g gb R hb n l l2 cc c2 ps os xs ys ls cs ks) {j : Nat} {x : Value} {ps' os' xs' ys' ls' : List Value} (e : (handsOf ps os xs ys ls).setIfInBounds j x = handsOf ps' os' xs' ys' ls') :
    PA w (wr.setCell ⟨hb, j, none⟩ x) m b S g gb R hb n l l2 cc c2 ps' os' xs' ys' ls' cs ks := by
  obtain ⟨y, M⟩ := h.mem
  have hu : Upd [hb] wr (wr.setCell ⟨hb, j, none⟩ x) := (Upd.refl _ _).setCell (.inl (by simp)) _
  have o1 := h.out h.hands (by decide)
  exact ⟨h.hS.upd hu (by simpa using h.hS.ne h.hands (by decide)), h.hR.upd hu (by simpa using h.hR.ne h.hands (by decide)), ⟨y, M.upd hu (by simpa using M.hg.ne h.hands (by decide)) (by simpa using M.hb.ne h.hands (by decide))⟩, h.rmem.upd hu (by simpa using h.rmem.hg.ne h.hands (by decide)) (by simpa using h.rmem.hb.ne h.hands (by decide)),
    h.gang.upd (pkFrames _ _ _) hu (fun z hz => by simp; rintro rfl; exact o1 hz), (h.hands.set j x).congr e, h.bne, h.keeps.setCell h.hh _, h.hm, h.hbb, h.hg, h.hgb, h.hh⟩
end
/-- The cells of hands by their places. -/
structure Lens (ps os xs ys ls : List Value) : Prop where
  p : ps.length = 4
  o : os.length = 4
  x : xs.length = 4
  y : ys.length = 4
  l : ls.length = 4
section
variable {ps os xs ys ls : List Value} {r : Nat} {v : Value}
theorem Lens.at_p (h : Lens ps os xs ys ls) (hr : r < 4) : (handsOf ps os xs ys ls)[r]? = ps[r]? := by
  simp only [handsOf, List.getElem?_toArray]
  rw [List.getElem?_append_left (by rw [h.p]; exact hr)]
theorem Lens.at_o (h : Lens ps os xs ys ls) (hr : r < 4) : (handsOf ps os xs ys ls)[4 + r]? = os[r]? := by
  simp only [handsOf, List.getElem?_toArray]
  rw [List.getElem?_append_right (by rw [h.p]; omega), h.p, List.getElem?_append_left (by rw [h.o]; omega)]
  congr 1; omega
theorem Lens.at_x (h : Lens ps os xs ys ls) (hr : r < 4) : (handsOf ps os xs ys ls)[8 + r]? = xs[r]? := by
  simp only [handsOf, List.getElem?_toArray]
  rw [List.getElem?_append_right (by rw [h.p]; omega), h.p, List.getElem?_append_right (by rw [h.o]; omega), h.o, List.getElem?_append_left (by rw [h.x]; omega)]
  congr 1; omega
theorem Lens.at_y (h : Lens ps os xs ys ls) (hr : r < 4) : (handsOf ps os xs ys ls)[12 + r]? = ys[r]? := by
  simp only [handsOf, List.getElem?_toArray]
  rw [List.getElem?_append_right (by rw [h.p]; omega), h.p, List.getElem?_append_right (by rw [h.o]; omega), h.o, List.getElem?_append_right (by rw [h.x]; omega), h.x, List.getElem?_append_left (by rw [h.y]; omega)]
  congr 1; omega
theorem Lens.at_l (h : Lens ps os xs ys ls) (hr : r < 4) : (handsOf ps os xs ys ls)[16 + r]? = ls[r]? := by
  simp only [handsOf, List.getElem?_toArray]
  rw [List.getElem?_append_right (by rw [h.p]; omega), h.p, List.getElem?_append_right (by rw [h.o]; omega), h.o, List.getElem?_append_right (by rw [h.x]; omega), h.x, List.getElem?_append_right (by rw [h.y]; omega), h.y]
  congr 1; omega
theorem setl_toArray (xs : List Value) (j : Nat) (x : Value) : xs.toArray.setIfInBounds j x = (xs.set j x).toArray := by simp
theorem Lens.set_p (h : Lens ps os xs ys ls) (hr : r < 4) : (handsOf ps os xs ys ls).setIfInBounds r v = handsOf (ps.set r v) os xs ys ls := by
  unfold handsOf
  rw [setl_toArray, List.set_append_left _ _ (by rw [h.p]; exact hr)]
theorem Lens.set_o (h : Lens ps os xs ys ls) (hr : r < 4) : (handsOf ps os xs ys ls).setIfInBounds (4 + r) v = handsOf ps (os.set r v) xs ys ls := by
  unfold handsOf
  rw [setl_toArray, List.set_append_right _ _ (by rw [h.p]; omega), h.p, List.set_append_left _ _ (by rw [h.o]; omega), Nat.add_sub_cancel_left]
theorem Lens.set_x (h : Lens ps os xs ys ls) (hr : r < 4) : (handsOf ps os xs ys ls).setIfInBounds (8 + r) v = handsOf ps os (xs.set r v) ys ls := by
  unfold handsOf
  rw [setl_toArray, List.set_append_right _ _ (by rw [h.p]; omega), h.p, List.set_append_right _ _ (by rw [h.o]; omega), h.o, List.set_append_left _ _ (by rw [h.x]; omega)]
  congr 5; omega
theorem Lens.set_y (h : Lens ps os xs ys ls) (hr : r < 4) : (handsOf ps os xs ys ls).setIfInBounds (12 + r) v = handsOf ps os xs (ys.set r v) ls := by
  unfold handsOf
  rw [setl_toArray, List.set_append_right _ _ (by rw [h.p]; omega), h.p, List.set_append_right _ _ (by rw [h.o]; omega), h.o, List.set_append_right _ _ (by rw [h.x]; omega), h.x, List.set_append_left _ _ (by rw [h.y]; omega)]
  have e : 12 + r - 4 - 4 - 4 = r := by omega
  rw [e]
theorem Lens.set_l (h : Lens ps os xs ys ls) (hr : r < 4) : (handsOf ps os xs ys ls).setIfInBounds (16 + r) v = handsOf ps os xs ys (ls.set r v) := by
  unfold handsOf
  rw [setl_toArray, List.set_append_right _ _ (by rw [h.p]; omega), h.p, List.set_append_right _ _ (by rw [h.o]; omega), h.o, List.set_append_right _ _ (by rw [h.x]; omega), h.x, List.set_append_right _ _ (by rw [h.y]; omega), h.y]
  have e : 16 + r - 4 - 4 - 4 - 4 = r := by omega
  rw [e]
end
/-- hands says where each worker's things lie. -/
structure Ties (ps os xs ys ls : List Value) (cs : List PLoc) : Prop where
  len : Lens ps os xs ys ls
  p : ∀ (i : Nat) c, cs[i]? = some c → ps[i]? = some (optr c.p)
  o : ∀ (i : Nat) c, cs[i]? = some c → os[i]? = some (optr c.o)
  x : ∀ (i : Nat) c t, cs[i]? = some c → c.x = some t → xs[i]? = some (ptr t)
  y : ∀ (i : Nat) c t, cs[i]? = some c → c.y = some t → ys[i]? = some (ptr t)
  l : ∀ (i : Nat) c, cs[i]? = some c → ls[i]? = some c.h
theorem Ties.turn {ps os xs ys ls ps' os' xs' ys' ls' : List Value} {cs : List PLoc} {i : Nat} {c : PLoc} (h : Ties ps os xs ys ls cs) (hi : i < cs.length) (hl : Lens ps' os' xs' ys' ls')
    (hp : ps'[i]? = some (optr c.p) ∧ ∀ j, j ≠ i → ps'[j]? = ps[j]?) (ho : os'[i]? = some (optr c.o) ∧ ∀ j, j ≠ i → os'[j]? = os[j]?) (hx : (∀ t, c.x = some t → xs'[i]? = some (ptr t)) ∧ ∀ j, j ≠ i → xs'[j]? = xs[j]?) (hy : (∀ t, c.y = some t → ys'[i]? = some (ptr t)) ∧ ∀ j, j ≠ i → ys'[j]? = ys[j]?) (hll : ls'[i]? = some c.h ∧ ∀ j, j ≠ i → ls'[j]? = ls[j]?) :
    Ties ps' os' xs' ys' ls' (cs.set i c) := by
  have key : ∀ (j : Nat) d, (cs.set i c)[j]? = some d → (j = i ∧ d = c) ∨ (j ≠ i ∧ cs[j]? = some d) := by
    intro j d hd
    by_cases hji : j = i
    · subst hji; rw [List.getElem?_set_self hi] at hd; cases hd; exact .inl ⟨rfl, rfl⟩
    · rw [List.getElem?_set_ne (fun e => hji e.symm)] at hd; exact .inr ⟨hji, hd⟩
  refine ⟨hl, fun j d hd => ?_, fun j d hd => ?_, fun j d t hd ht => ?_, fun j d t hd ht => ?_, fun j d hd => ?_⟩ <;> rcases key j d hd with ⟨rfl, rfl⟩ | ⟨hn, hd2⟩
  · exact hp.1
  · rw [hp.2 j hn]; exact h.p j d hd2
  · exact ho.1
  · rw [ho.2 j hn]; exact h.o j d hd2
  · exact hx.1 t ht
  · rw [hx.2 j hn]; exact h.x j d t hd2 ht
  · exact hy.1 t ht
  · rw [hy.2 j hn]; exact h.y j d t hd2 ht
  · exact hll.1
  · rw [hll.2 j hn]; exact h.l j d hd2
theorem keep_at (xs : List Value) {i : Nat} {v : Value} (h : xs[i]? = some v) : xs[i]? = some v ∧ ∀ j, j ≠ i → xs[j]? = xs[j]? := ⟨h, fun _ _ => rfl⟩
theorem set_at {xs : List Value} {i : Nat} (v : Value) (h : i < xs.length) : (xs.set i v)[i]? = some v ∧ ∀ j, j ≠ i → (xs.set i v)[j]? = xs[j]? :=
  ⟨List.getElem?_set_self h, fun j hj => List.getElem?_set_ne (fun e => hj e.symm)⟩
/-- All that stands between two rounds. -/
def PInv (w wr : World) (m b S g gb R hb n : Nat) (C : Int) : Prop := ∃ (l : List Int) (cc : Int) (ps os xs ys ls : List Value) (cs : List PLoc) (ws : List Wk) (T : Nat) (L : List Int),
  PA w wr m b S g gb R hb n l l cc cc ps os xs ys ls cs (ws.map fun k => ⟨k, k.md⟩) ∧ Ties ps os xs ys ls cs ∧ StAll 0 2 n (n + 2) C l T L ws ∧ cc ≤ C
theorem pws_at {ws : List Wk} {i : Nat} {k : Wk} (h : ws[i]? = some k) : (ws.map fun k => (⟨k, k.md⟩ : PWk))[i]? = some ⟨k, k.md⟩ := by simp [h]
theorem pws_set (ws : List Wk) (i : Nat) (k : Wk) : (ws.map fun k => (⟨k, k.md⟩ : PWk)).set i ⟨k, k.md⟩ = (ws.set i k).map fun k => ⟨k, k.md⟩ := by rw [List.map_set]
end Go.Proofs.Ytcohhfndaogikaa
