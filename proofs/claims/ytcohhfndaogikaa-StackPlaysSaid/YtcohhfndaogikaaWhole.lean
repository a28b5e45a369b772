/- The relation of StackWhole, and what each call does to it. -/
import Derived.Test.YtcohhfndaogikaaGang
import Derived.Test.YtcohhfndaogikaaStackH
import Derived.Test.YtcohhfndaogikaaStackTab
namespace Go.Proofs.Ytcohhfndaogikaa
set_option linter.unusedVariables false
set_option linter.unusedSimpArgs false
open Go Go.RowKit
set_option maxRecDepth 100000
set_option maxHeartbeats 1000000

/-- Where a worker's things lie: his two machines, his machine's slice, what he has, what he puts. -/
structure Loc where
  p : Option Nat
  o : Option Nat
  v : Value
  h : Value
  u : Value
def Loc.segs (c : Loc) : List (List Nat) := [c.p.toList, c.o.toList, ownB c.v, ownB c.h, ownB c.u]
def Loc.foot (c : Loc) : List Nat := c.segs.flatten
def MdRep (B S : Nat) (w : World) (c : Loc) : Md → Prop
  | .no => c.p = none ∧ c.o = none ∧ c.v = .slice none 0 0
  | .pu s => c.o = none ∧ ∃ g, c.p = some g ∧ PuRep w B g S c.v s
  | .po s => c.p = none ∧ ∃ g, c.o = some g ∧ PoRep w B g S c.v s
structure WkRep (B S : Nat) (w : World) (c : Loc) (k : Wk) : Prop where
  md : MdRep B S w c k.md
  has : Row B 3 w c.h (ivals k.has)
  puts : Row B 3 w c.u (ivals k.puts)
theorem ownB_nodup (v : Value) : (ownB v).Nodup := by
  unfold ownB; cases v.ownBlock <;> simp
theorem setIdx_same {α : Type} {cs : List α} {i : Nat} {c : α} (h : cs[i]? = some c) : cs.set i c = cs := by
  obtain ⟨hi, e⟩ := List.getElem?_eq_some_iff.1 h
  rw [← e, List.set_getElem_self]
section
variable {w w' : World} {B S g : Nat} {v : Value} {T : List Nat} {c : Loc} {k : Wk}
theorem PuRep.upd {s : Pu} (h : PuRep w B g S v s) (hu : Upd T w w') (h1 : g ∉ T) (h2 : ∀ y ∈ ownB v, y ∉ T) : PuRep w' B g S v s := ⟨h.has.upd hu h1, h.row.upd hu h2⟩
theorem PoRep.upd {s : Po} (h : PoRep w B g S v s) (hu : Upd T w w') (h1 : g ∉ T) (h2 : ∀ y ∈ ownB v, y ∉ T) : PoRep w' B g S v s := ⟨h.has.upd hu h1, h.row.upd hu h2⟩
theorem Loc.in_p (hp : c.p = some g) : g ∈ c.foot := by simp [Loc.foot, Loc.segs, hp]
theorem Loc.in_o (hp : c.o = some g) : g ∈ c.foot := by simp [Loc.foot, Loc.segs, hp]
theorem Loc.in_v {y : Nat} (h : y ∈ ownB c.v) : y ∈ c.foot := by simp [Loc.foot, Loc.segs, h]
theorem Loc.in_h {y : Nat} (h : y ∈ ownB c.h) : y ∈ c.foot := by simp [Loc.foot, Loc.segs, h]
theorem Loc.in_u {y : Nat} (h : y ∈ ownB c.u) : y ∈ c.foot := by simp [Loc.foot, Loc.segs, h]
theorem wkFrames (B S : Nat) : Frames Loc.foot (WkRep B S) := by
  intro w w' T c k h hu hT
  obtain ⟨md, has, puts⟩ := h
  refine ⟨?_, has.upd hu (fun y hy => hT y (Loc.in_h hy)), puts.upd hu (fun y hy => hT y (Loc.in_u hy))⟩
  cases hm : k.md with
  | no => rw [hm] at md; exact md
  | pu s =>
    rw [hm] at md
    obtain ⟨h1, g, h2, h3⟩ := md
    exact ⟨h1, g, h2, h3.upd hu (hT g (Loc.in_p h2)) (fun y hy => hT y (Loc.in_v hy))⟩
  | po s =>
    rw [hm] at md
    obtain ⟨h1, g, h2, h3⟩ := md
    exact ⟨h1, g, h2, h3.upd hu (hT g (Loc.in_o h2)) (fun y hy => hT y (Loc.in_v hy))⟩
theorem foot_ne {cs : Array Value} {t : TypeId} (h : WkRep B S w c k) (hg : Has w g cs t) (h1 : t ≠ 140) (h2 : t ≠ 146) (h3 : t ≠ 3) : g ∉ c.foot := by
  obtain ⟨md, has, puts⟩ := h
  intro hm
  simp only [Loc.foot, Loc.segs, List.flatten_cons, List.flatten_nil, List.append_nil, List.mem_append, Option.mem_toList] at hm
  rcases hm with hm | hm | hm | hm | hm
  · cases hk : k.md with
    | no => rw [hk] at md; rw [md.1] at hm; cases hm
    | pu s => rw [hk] at md; obtain ⟨_, g', e, hr⟩ := md; rw [e] at hm; cases hm; exact Has.ne hg hr.has h1 rfl
    | po s => rw [hk] at md; rw [md.1] at hm; cases hm
  · cases hk : k.md with
    | no => rw [hk] at md; rw [md.2.1] at hm; cases hm
    | pu s => rw [hk] at md; rw [md.1] at hm; cases hm
    | po s => rw [hk] at md; obtain ⟨_, g', e, hr⟩ := md; rw [e] at hm; cases hm; exact Has.ne hg hr.has h2 rfl
  · cases hk : k.md with
    | no => rw [hk] at md; rw [md.2.2] at hm; simp at hm
    | pu s => rw [hk] at md; obtain ⟨_, g', e, hr⟩ := md; exact hr.row.ne hg (Ne.symm h3) g hm rfl
    | po s => rw [hk] at md; obtain ⟨_, g', e, hr⟩ := md; exact hr.row.ne hg (Ne.symm h3) g hm rfl
  · exact has.ne hg (Ne.symm h3) g hm rfl
  · exact puts.ne hg (Ne.symm h3) g hm rfl
end
/-- All that stands: the stack, the memory, the workers, the four arrays. -/
structure WA (w wr : World) (m b S pa oa ha ua n : Nat) (C : Int) (l : List Int) (ps os : List (Option Nat)) (hs us : List Value) (cs : List Loc) (ws : List Wk) : Prop where
  hS : Has wr S (stackOf m (0 : Nat) (2 : Nat) n) 138
  mem : ∃ cc x, Mem wr m b (n + 2) l cc x ∧ cc ≤ C
  gang : Gang Loc.foot (WkRep w.heap.size S) wr w.heap.size cs ws
  parr : Has wr pa (optrs ps) 100
  oarr : Has wr oa (optrs os) 101
  harr : Has wr ha hs.toArray 106
  uarr : Has wr ua us.toArray 106
  hau : ha ≠ ua
  keeps : Keeps w wr
  hm : w.heap.size ≤ m
  hb : w.heap.size ≤ b
  hp : w.heap.size ≤ pa
  ho : w.heap.size ≤ oa
  hh : w.heap.size ≤ ha
  hu : w.heap.size ≤ ua
section
variable {w wr w' : World} {m b S pa oa ha ua n : Nat} {C : Int} {l l' : List Int} {ps os : List (Option Nat)} {hs us : List Value} {cs : List Loc} {ws : List Wk} {T : List Nat} {i g : Nat} {c c' : Loc} {k k' : Wk}
theorem WA.out (h : WA w wr m b S pa oa ha ua n C l ps os hs us cs ws) {cs' : Array Value} {t : TypeId} (hg : Has wr g cs' t) (h1 : t ≠ 140) (h2 : t ≠ 146) (h3 : t ≠ 3) : g ∉ (cs.map Loc.foot).flatten :=
  h.gang.out (fun _ _ hr => foot_ne hr hg h1 h2 h3)
theorem WA.later (h : WA w wr m b S pa oa ha ua n C l ps os hs us cs ws) (hk : Keeps wr w') : WA w w' m b S pa oa ha ua n C l ps os hs us cs ws := by
  obtain ⟨cc, x, M, hc⟩ := h.mem
  exact ⟨h.hS.keeps hk, ⟨cc, x, M.keeps hk, hc⟩, h.gang.keeps (wkFrames _ _) hk, h.parr.keeps hk, h.oarr.keeps hk, h.harr.keeps hk, h.uarr.keeps hk, h.hau, h.keeps.trans hk, h.hm, h.hb, h.hp, h.ho, h.hh, h.hu⟩
theorem WA.more (h : WA w wr m b S pa oa ha ua n C l ps os hs us cs ws) : WA w wr m b S pa oa ha ua n (C + 1) l ps os hs us cs ws := by
  obtain ⟨cc, x, M, hc⟩ := h.mem
  exact ⟨h.hS, ⟨cc, x, M, by omega⟩, h.gang, h.parr, h.oarr, h.harr, h.uarr, h.hau, h.keeps, h.hm, h.hb, h.hp, h.ho, h.hh, h.hu⟩
/-- One of the workers turns, the memory with him. -/
theorem WA.turnM (h : WA w wr m b S pa oa ha ua n C l ps os hs us cs ws) {D : Int} (hc : cs[i]? = some c) (hk : ws[i]? = some k) (hu : Upd T wr w') (hT : ∀ y ∈ T, y ∈ c.foot ∨ y = m ∨ y = b)
    (hM : ∃ cc x, Mem w' m b (n + 2) l' cc x ∧ cc ≤ D) (hr : WkRep w.heap.size S w' c' k') (hn : c'.foot.Nodup) (hf : ∀ y ∈ c'.foot, (y ∈ c.foot ∨ wr.heap.size ≤ y) ∧ y < w'.heap.size) :
    WA w w' m b S pa oa ha ua n D l' ps os hs us (cs.set i c') (ws.set i k') := by
  obtain ⟨cc, x, M, hcc⟩ := h.mem
  have hin : ∀ y ∈ c.foot, y ∈ (cs.map Loc.foot).flatten := fun y hy => foot_mem (F := cs.map Loc.foot) (i := i) (f := c.foot) (by simp [hc]) hy
  have hm0 := h.out M.hg (by decide) (by decide) (by decide)
  have hb0 := h.out M.hb (by decide) (by decide) (by decide)
  have key : ∀ {q : Nat} {xs : Array Value} {t : TypeId}, Has wr q xs t → t ≠ 140 → t ≠ 146 → t ≠ 3 → q ≠ m → q ≠ b → q ∉ T := fun hq h1 h2 h3 h4 h5 hy => by
    rcases hT _ hy with h6 | h6 | h6
    · exact h.out hq h1 h2 h3 (hin _ h6)
    · exact h4 h6
    · exact h5 h6
  have own := h.gang.foot_own hc
  refine ⟨h.hS.upd hu (key h.hS (by decide) (by decide) (by decide) (h.hS.ne M.hg (by decide)) (h.hS.ne M.hb (by decide))), hM, ?_, h.parr.upd hu (key h.parr (by decide) (by decide) (by decide) (h.parr.ne M.hg (by decide)) (h.parr.ne M.hb (by decide))),
    h.oarr.upd hu (key h.oarr (by decide) (by decide) (by decide) (h.oarr.ne M.hg (by decide)) (h.oarr.ne M.hb (by decide))), h.harr.upd hu (key h.harr (by decide) (by decide) (by decide) (h.harr.ne M.hg (by decide)) (h.harr.ne M.hb (by decide))),
    h.uarr.upd hu (key h.uarr (by decide) (by decide) (by decide) (h.uarr.ne M.hg (by decide)) (h.uarr.ne M.hb (by decide))), h.hau, h.keeps.upd hu (fun y hy => ?_), h.hm, h.hb, h.hp, h.ho, h.hh, h.hu⟩
  · refine h.gang.turn (wkFrames _ _) hc hk hu (fun y hy hy2 hyT => ?_) hr hn hf h.keeps.size
    rcases hT y hyT with h6 | h6 | h6
    · exact hy2 h6
    · subst h6; exact hm0 hy
    · subst h6; exact hb0 hy
  · rcases hT y hy with h6 | h6 | h6
    · exact (own y h6).1
    · rw [h6]; exact h.hm
    · rw [h6]; exact h.hb
theorem WA.turn (h : WA w wr m b S pa oa ha ua n C l ps os hs us cs ws) (hc : cs[i]? = some c) (hk : ws[i]? = some k) (hu : Upd T wr w') (hT : ∀ y ∈ T, y ∈ c.foot)
    (hr : WkRep w.heap.size S w' c' k') (hn : c'.foot.Nodup) (hf : ∀ y ∈ c'.foot, (y ∈ c.foot ∨ wr.heap.size ≤ y) ∧ y < w'.heap.size) :
    WA w w' m b S pa oa ha ua n C l ps os hs us (cs.set i c') (ws.set i k') := by
  obtain ⟨cc, x, M, hcc⟩ := h.mem
  have hin : ∀ y ∈ c.foot, y ∈ (cs.map Loc.foot).flatten := fun y hy => foot_mem (F := cs.map Loc.foot) (i := i) (f := c.foot) (by simp [hc]) hy
  have hm0 := h.out M.hg (by decide) (by decide) (by decide)
  have hb0 := h.out M.hb (by decide) (by decide) (by decide)
  exact h.turnM hc hk hu (fun y hy => .inl (hT y hy)) ⟨cc, x, M.upd hu (fun hy => hm0 (hin _ (hT _ hy))) (fun hy => hb0 (hin _ (hT _ hy))), hcc⟩ hr hn hf
theorem WA.less (h : WA w wr m b S pa oa ha ua n C l ps os hs us cs ws) (hc : cs[i]? = some c) (hk : ws[i]? = some k) (hr : WkRep w.heap.size S wr c' k') (hsub : List.Sublist c'.foot c.foot) :
    WA w wr m b S pa oa ha ua n C l ps os hs us (cs.set i c') (ws.set i k') :=
  h.turn hc hk (Upd.refl [] wr) (by simp) hr ((h.gang.foot_nd hc).sublist hsub) (fun y hy => ⟨.inl (hsub.subset hy), (h.gang.foot_own hc y (hsub.subset hy)).2⟩)
/-- One segment of a worker's is another one. -/
theorem WA.seg (h : WA w wr m b S pa oa ha ua n C l ps os hs us cs ws) (hc : cs[i]? = some c) (j : Nat) (f' : List Nat) {f : List Nat} (hj : c.segs[j]? = some f) (e : c'.foot = (c.segs.set j f').flatten) (hn : f'.Nodup) (hf : ∀ y ∈ f', (y ∈ f ∨ wr.heap.size ≤ y) ∧ y < w'.heap.size) (hsz0 : wr.heap.size ≤ w'.heap.size) :
    c'.foot.Nodup ∧ ∀ y ∈ c'.foot, (y ∈ c.foot ∨ wr.heap.size ≤ y) ∧ y < w'.heap.size := by
  have own := h.gang.foot_own hc
  rw [e]
  refine ⟨foot_set (F := c.segs) (h.gang.foot_nd hc) (fun y hy => (own y hy).2) hj hn (fun y hy => (hf y hy).1), fun y hy => ?_⟩
  rcases foot_set_mem hy with hy | hy
  · obtain ⟨h1 | h1, h2⟩ := hf y hy
    · exact ⟨.inl (foot_mem (F := c.segs) hj h1), h2⟩
    · exact ⟨.inr h1, h2⟩
  · have := own y hy
    exact ⟨.inl hy, by omega⟩
/-- His Push does an access. -/
theorem WA.pu {s : Pu} (h : WA w wr m b S pa oa ha ua n C l ps os hs us cs ws) (hc : cs[i]? = some c) (hk : ws[i]? = some k) (hmd : k.md = .pu s) (hg : c.p = some g) (L : StOk 0 2 n (n + 2) l) (H : PuOk n s) (hC : C ≤ 1000000) :
    Calls Try.prog 56 #[.pointer (some ⟨g, 0, none⟩)] wr fun e w' => e = .returned (.bool (decide (s.ph < 4))) ∧ WA w w' m b S pa oa ha ua n (C + 1) (puMem 0 2 n l s) ps os hs us cs (ws.set i ⟨.pu (puStep 0 l s), k.has, k.puts⟩) := by
  obtain ⟨cc, x, M, hcc⟩ := h.mem
  have R := h.gang.rep i c k hc hk
  obtain ⟨md, rh, ru⟩ := R
  rw [hmd] at md
  obtain ⟨ho, g', hg', hr⟩ := md
  rw [hg] at hg'; cases hg'
  have hm0 := h.out M.hg (by decide) (by decide) (by decide)
  have hb0 := h.out M.hb (by decide) (by decide) (by decide)
  have hin : ∀ y ∈ c.foot, y ∈ (cs.map Loc.foot).flatten := fun y hy => foot_mem (F := cs.map Loc.foot) (i := i) (f := c.foot) (by simp [hc]) hy
  have nd := h.gang.foot_nd hc
  refine (puStep_c hr h.hS M L H (by omega)).mono ?_
  rintro e w' ⟨rfl, hu, hA, x', M'⟩
  have own := h.gang.foot_own hc
  have hsz := hu.size
  have hgh : ∀ y ∈ ownB c.h, y ∉ [g, m, b] := fun y hy => by
    have h1 := hin y (Loc.in_h hy)
    simp only [List.mem_cons, List.not_mem_nil, or_false, not_or]
    exact ⟨fun e => by subst e; exact rh.ne hr.has (by decide) y hy rfl, fun e => hm0 (e ▸ h1), fun e => hb0 (e ▸ h1)⟩
  have hgu : ∀ y ∈ ownB c.u, y ∉ [g, m, b] := fun y hy => by
    have h1 := hin y (Loc.in_u hy)
    simp only [List.mem_cons, List.not_mem_nil, or_false, not_or]
    exact ⟨fun e => by subst e; exact ru.ne hr.has (by decide) y hy rfl, fun e => hm0 (e ▸ h1), fun e => hb0 (e ▸ h1)⟩
  have T := h.turnM (D := C + 1) (c' := c) (k' := ⟨.pu (puStep 0 l s), k.has, k.puts⟩) hc hk hu (fun y hy => by
    simp only [List.mem_cons, List.not_mem_nil, or_false] at hy
    rcases hy with rfl | rfl | rfl
    · exact .inl (Loc.in_p hg)
    · exact .inr (.inl rfl)
    · exact .inr (.inr rfl)) ⟨_, x', M', by unfold puCount; split <;> omega⟩ ⟨⟨ho, g, hg, hA⟩, rh.upd hu hgh, ru.upd hu hgu⟩ nd (fun y hy => ⟨.inl hy, by have := own y hy; omega⟩)
  rw [setIdx_same hc] at T
  exact ⟨rfl, T⟩
/-- His Pop does an access. -/
theorem WA.po {s : Po} (h : WA w wr m b S pa oa ha ua n C l ps os hs us cs ws) (hc : cs[i]? = some c) (hk : ws[i]? = some k) (hmd : k.md = .po s) (hg : c.o = some g) (L : StOk 0 2 n (n + 2) l) (H : PoOk n s) (hC : C ≤ 1000000) :
    Calls Try.prog 48 #[.pointer (some ⟨g, 0, none⟩)] wr fun e w' => ∃ v', e = .returned (.bool (decide (s.ph < 3))) ∧ WA w w' m b S pa oa ha ua n (C + 1) (poMem 0 l s) ps os hs us (cs.set i { c with v := v' }) (ws.set i ⟨.po (poStep 0 2 n l s), k.has, k.puts⟩) := by
  obtain ⟨cc, x, M, hcc⟩ := h.mem
  have R := h.gang.rep i c k hc hk
  obtain ⟨md, rh, ru⟩ := R
  rw [hmd] at md
  obtain ⟨hp, g', hg', hr⟩ := md
  rw [hg] at hg'; cases hg'
  have hm0 := h.out M.hg (by decide) (by decide) (by decide)
  have hb0 := h.out M.hb (by decide) (by decide) (by decide)
  have hin : ∀ y ∈ c.foot, y ∈ (cs.map Loc.foot).flatten := fun y hy => foot_mem (F := cs.map Loc.foot) (i := i) (f := c.foot) (by simp [hc]) hy
  have nd := h.gang.foot_nd hc
  refine (poStep_c hr h.hS M L H h.keeps.size (by omega)).mono ?_
  rintro e w' ⟨v', rfl, hu, hA, ⟨x', M'⟩, hv⟩
  have own := h.gang.foot_own hc
  have hsz := hu.size
  have nvh : ∀ y ∈ ownB c.h, y ∉ ownB c.v := fun y hy => foot_apart (F := c.segs) (i := 2) (j := 3) nd rfl rfl (by decide) y hy
  have nvu : ∀ y ∈ ownB c.u, y ∉ ownB c.v := fun y hy => foot_apart (F := c.segs) (i := 2) (j := 4) nd rfl rfl (by decide) y hy
  have hgh : ∀ y ∈ ownB c.h, y ∉ g :: m :: b :: ownB c.v := fun y hy => by
    have h1 := hin y (Loc.in_h hy)
    simp only [List.mem_cons, not_or]
    exact ⟨fun e => by subst e; exact rh.ne hr.has (by decide) y hy rfl, fun e => hm0 (e ▸ h1), fun e => hb0 (e ▸ h1), nvh y hy⟩
  have hgu : ∀ y ∈ ownB c.u, y ∉ g :: m :: b :: ownB c.v := fun y hy => by
    have h1 := hin y (Loc.in_u hy)
    simp only [List.mem_cons, not_or]
    exact ⟨fun e => by subst e; exact ru.ne hr.has (by decide) y hy rfl, fun e => hm0 (e ▸ h1), fun e => hb0 (e ▸ h1), nvu y hy⟩
  obtain ⟨q1, q2⟩ := h.seg (w' := w') (c' := { c with v := v' }) hc 2 (ownB v') rfl rfl (ownB_nodup _) (fun y hy => ⟨hv y hy, (hA.row.own y hy).2⟩) hsz
  refine ⟨v', rfl, h.turnM (D := C + 1) hc hk hu (fun y hy => ?_) ⟨_, x', M', by unfold poCount; split <;> omega⟩ ⟨⟨hp, g, hg, hA⟩, rh.upd hu hgh, ru.upd hu hgu⟩ q1 q2⟩
  simp only [List.mem_cons] at hy
  rcases hy with rfl | rfl | rfl | hy
  · exact .inl (Loc.in_o hg)
  · exact .inr (.inl rfl)
  · exact .inr (.inr rfl)
  · exact .inl (Loc.in_v hy)
/-- His Push is let go. -/
theorem WA.endPu {s : Pu} (h : WA w wr m b S pa oa ha ua n C l ps os hs us cs ws) (hc : cs[i]? = some c) (hk : ws[i]? = some k) (hmd : k.md = .pu s) :
    WA w wr m b S pa oa ha ua n C l ps os hs us (cs.set i ⟨none, none, .slice none 0 0, c.h, .slice none 0 0⟩) (ws.set i ⟨.no, k.has, []⟩) := by
  obtain ⟨md, rh, ru⟩ := h.gang.rep i c k hc hk
  refine h.less hc hk ⟨⟨rfl, rfl, rfl⟩, rh, Row.nil _ _ _⟩ ?_
  have e : (⟨none, none, .slice none 0 0, c.h, .slice none 0 0⟩ : Loc).foot = ownB c.h := by simp [Loc.foot, Loc.segs]
  rw [e]
  have e2 : c.foot = (c.p.toList ++ (c.o.toList ++ ownB c.v)) ++ (ownB c.h ++ ownB c.u) := by simp [Loc.foot, Loc.segs]
  rw [e2]
  exact (List.sublist_append_left _ _).trans (List.sublist_append_right _ _)
/-- His Pop is let go: what it got is his. -/
theorem WA.endPo {s : Po} (h : WA w wr m b S pa oa ha ua n C l ps os hs us cs ws) (hc : cs[i]? = some c) (hk : ws[i]? = some k) (hmd : k.md = .po s) {v3 : Value} {got : List Int} (hu : Upd (ownB c.h) wr w') (R : Row w.heap.size 3 w' v3 (ivals (k.has ++ got))) (O : ∀ z ∈ ownB v3, z ∈ ownB c.h ∨ z = wr.heap.size) :
    WA w w' m b S pa oa ha ua n C l ps os hs us (cs.set i ⟨none, none, .slice none 0 0, v3, c.u⟩) (ws.set i ⟨.no, k.has ++ got, k.puts⟩) := by
  obtain ⟨md, rh, ru⟩ := h.gang.rep i c k hc hk
  have nd := h.gang.foot_nd hc
  have own := h.gang.foot_own hc
  have hsz := hu.size
  have nhu : ∀ y ∈ ownB c.u, y ∉ ownB c.h := fun y hy => foot_apart (F := c.segs) (i := 3) (j := 4) nd rfl rfl (by decide) y hy
  have e : (⟨none, none, .slice none 0 0, v3, c.u⟩ : Loc).foot = ownB v3 ++ ownB c.u := by simp [Loc.foot, Loc.segs]
  refine h.turn hc hk hu (fun y hy => Loc.in_h hy) ⟨⟨rfl, rfl, rfl⟩, R, ru.upd hu nhu⟩ ?_ ?_
  · rw [e, List.nodup_append]
    refine ⟨ownB_nodup _, ownB_nodup _, fun a ha b hb e => ?_⟩
    subst e
    rcases O a ha with h1 | h1
    · exact nhu a hb h1
    · have := own a (Loc.in_u hb); omega
  · rw [e]
    intro y hy
    rcases List.mem_append.1 hy with hy | hy
    · have h2 := (R.own y hy).2
      rcases O y hy with h1 | h1
      · exact ⟨.inl (Loc.in_h h1), h2⟩
      · exact ⟨.inr (by omega), h2⟩
    · have := own y (Loc.in_u hy)
      exact ⟨.inl (Loc.in_u hy), by omega⟩
/-- A Push of his begins. -/
theorem WA.newPu {s : Pu} {v : Value} (h : WA w wr m b S pa oa ha ua n C l ps os hs us cs ws) (hc : cs[i]? = some c) (hk : ws[i]? = some k) (hmd : k.md = .no) (hkp : Keeps wr w') (hg : wr.heap.size ≤ g) (hr : PuRep w' wr.heap.size g S v s) :
    WA w w' m b S pa oa ha ua n C l ps os hs us (cs.set i ⟨some g, none, v, c.h, c.u⟩) (ws.set i ⟨.pu s, k.has, k.puts⟩) := by
  obtain ⟨md, rh, ru⟩ := h.gang.rep i c k hc hk
  rw [hmd] at md
  obtain ⟨m1, m2, m3⟩ := md
  have nd := h.gang.foot_nd hc
  have own := h.gang.foot_own hc
  have hsz := hkp.size
  have hB := h.keeps.size
  have ec : c.foot = ownB c.h ++ ownB c.u := by simp [Loc.foot, Loc.segs, m1, m2, m3]
  have e : (⟨some g, none, v, c.h, c.u⟩ : Loc).foot = g :: (ownB v ++ c.foot) := by rw [ec]; simp [Loc.foot, Loc.segs]
  have hvo := hr.row.own
  have hgl := hr.has.lt
  refine h.turn hc hk (Upd.of_keeps (S := []) hkp) (by simp) ⟨⟨rfl, g, rfl, ⟨hr.has, hr.row.mono hB⟩⟩, rh.keeps hkp, ru.keeps hkp⟩ ?_ ?_
  · rw [e, List.nodup_cons, List.nodup_append]
    refine ⟨fun hm => ?_, ownB_nodup _, nd, fun a ha b hb e => ?_⟩
    · rcases List.mem_append.1 hm with hm | hm
      · exact hr.row.ne hr.has (by decide) g hm rfl
      · have := own g hm; omega
    · subst e
      have := hvo a ha
      have := own a hb
      omega
  · rw [e]
    intro y hy
    rcases List.mem_cons.1 hy with rfl | hy
    · exact ⟨.inr hg, hgl⟩
    · rcases List.mem_append.1 hy with hy | hy
      · exact ⟨.inr (hvo y hy).1, (hvo y hy).2⟩
      · have := own y hy
        exact ⟨.inl hy, by omega⟩
theorem WA.newPo {s : Po} (h : WA w wr m b S pa oa ha ua n C l ps os hs us cs ws) (hc : cs[i]? = some c) (hk : ws[i]? = some k) (hmd : k.md = .no) (hkp : Keeps wr w') (hg : wr.heap.size ≤ g) (hr : PoRep w' wr.heap.size g S (.slice none 0 0) s) :
    WA w w' m b S pa oa ha ua n C l ps os hs us (cs.set i ⟨none, some g, .slice none 0 0, c.h, c.u⟩) (ws.set i ⟨.po s, k.has, k.puts⟩) := by
  obtain ⟨md, rh, ru⟩ := h.gang.rep i c k hc hk
  rw [hmd] at md
  obtain ⟨m1, m2, m3⟩ := md
  have nd := h.gang.foot_nd hc
  have own := h.gang.foot_own hc
  have hsz := hkp.size
  have hB := h.keeps.size
  have ec : c.foot = ownB c.h ++ ownB c.u := by simp [Loc.foot, Loc.segs, m1, m2, m3]
  have e : (⟨none, some g, .slice none 0 0, c.h, c.u⟩ : Loc).foot = g :: c.foot := by rw [ec]; simp [Loc.foot, Loc.segs]
  have hgl := hr.has.lt
  refine h.turn hc hk (Upd.of_keeps (S := []) hkp) (by simp) ⟨⟨rfl, g, rfl, ⟨hr.has, hr.row.mono hB⟩⟩, rh.keeps hkp, ru.keeps hkp⟩ ?_ ?_
  · rw [e, List.nodup_cons]
    exact ⟨fun hm => by have := own g hm; omega, nd⟩
  · rw [e]
    intro y hy
    rcases List.mem_cons.1 hy with rfl | hy
    · exact ⟨.inr hg, hgl⟩
    · have := own y hy
      exact ⟨.inl hy, by omega⟩
/-- What he puts, what he has, lies in new memory. -/
theorem WA.newU {v : Value} {zs : List Int} (h : WA w wr m b S pa oa ha ua n C l ps os hs us cs ws) (hc : cs[i]? = some c) (hk : ws[i]? = some k) (hkp : Keeps wr w') (R : Row wr.heap.size 3 w' v (ivals zs)) :
    WA w w' m b S pa oa ha ua n C l ps os hs us (cs.set i { c with u := v }) (ws.set i ⟨k.md, k.has, zs⟩) := by
  obtain ⟨md, rh, ru⟩ := (wkFrames _ _) (h.gang.rep i c k hc hk) (Upd.of_keeps (S := []) hkp) (fun _ _ => by simp)
  have hB := h.keeps.size
  obtain ⟨q1, q2⟩ := h.seg (w' := w') (c' := { c with u := v }) hc 4 (ownB v) rfl rfl (ownB_nodup _) (fun y hy => ⟨.inr (R.own y hy).1, (R.own y hy).2⟩) hkp.size
  refine h.turn hc hk (Upd.of_keeps (S := []) hkp) (by simp) ⟨?_, rh, R.mono hB⟩ q1 q2
  cases hm : k.md <;> rw [hm] at md <;> exact md
theorem WA.newH {v : Value} {zs : List Int} (h : WA w wr m b S pa oa ha ua n C l ps os hs us cs ws) (hc : cs[i]? = some c) (hk : ws[i]? = some k) (hkp : Keeps wr w') (R : Row wr.heap.size 3 w' v (ivals zs)) :
    WA w w' m b S pa oa ha ua n C l ps os hs us (cs.set i { c with h := v }) (ws.set i ⟨k.md, zs, k.puts⟩) := by
  obtain ⟨md, rh, ru⟩ := (wkFrames _ _) (h.gang.rep i c k hc hk) (Upd.of_keeps (S := []) hkp) (fun _ _ => by simp)
  have hB := h.keeps.size
  obtain ⟨q1, q2⟩ := h.seg (w' := w') (c' := { c with h := v }) hc 3 (ownB v) rfl rfl (ownB_nodup _) (fun y hy => ⟨.inr (R.own y hy).1, (R.own y hy).2⟩) hkp.size
  refine h.turn hc hk (Upd.of_keeps (S := []) hkp) (by simp) ⟨?_, R.mono hB, ru⟩ q1 q2
  cases hm : k.md <;> rw [hm] at md <;> exact md
/-- A cell of an array turns. -/
theorem WA.cell (h : WA w wr m b S pa oa ha ua n C l ps os hs us cs ws) {q j : Nat} {x : Value} {xs : Array Value} {t : TypeId} (hq : Has wr q xs t) (h1 : t ≠ 140) (h2 : t ≠ 146) (h3 : t ≠ 3) (hmq : ∀ cc y, Mem wr m b (n + 2) l cc y → m ≠ q ∧ b ≠ q) :
    (∃ cc x', Mem (wr.setCell ⟨q, j, none⟩ x) m b (n + 2) l cc x' ∧ cc ≤ C) ∧ Gang Loc.foot (WkRep w.heap.size S) (wr.setCell ⟨q, j, none⟩ x) w.heap.size cs ws := by
  obtain ⟨cc, y, M, hcc⟩ := h.mem
  obtain ⟨n1, n2⟩ := hmq cc y M
  have hu : Upd [q] wr (wr.setCell ⟨q, j, none⟩ x) := (Upd.refl _ _).setCell (.inl (by simp)) _
  refine ⟨⟨cc, y, M.upd hu (by simpa using n1) (by simpa using n2), hcc⟩, h.gang.upd (wkFrames _ _) hu (fun y hy => ?_)⟩
  have := h.out hq h1 h2 h3
  simp
  rintro rfl
  exact this hy
theorem WA.setP (h : WA w wr m b S pa oa ha ua n C l ps os hs us cs ws) (j : Nat) (o : Option Nat) : WA w (wr.setCell ⟨pa, j, none⟩ (optr o)) m b S pa oa ha ua n C l (ps.set j o) os hs us cs ws := by
  have hu : Upd [pa] wr (wr.setCell ⟨pa, j, none⟩ (optr o)) := (Upd.refl _ _).setCell (.inl (by simp)) _
  obtain ⟨q1, q2⟩ := h.cell (j := j) (x := optr o) h.parr (by decide) (by decide) (by decide) (fun _ _ M => ⟨M.hg.ne h.parr (by decide), M.hb.ne h.parr (by decide)⟩)
  exact ⟨h.hS.upd hu (by simpa using h.hS.ne h.parr (by decide)), q1, q2, (h.parr.set j (optr o)).congr (optrs_set _ _ _), h.oarr.upd hu (by simpa using h.oarr.ne h.parr (by decide)), h.harr.upd hu (by simpa using h.harr.ne h.parr (by decide)), h.uarr.upd hu (by simpa using h.uarr.ne h.parr (by decide)), h.hau, h.keeps.setCell h.hp _, h.hm, h.hb, h.hp, h.ho, h.hh, h.hu⟩
theorem WA.setO (h : WA w wr m b S pa oa ha ua n C l ps os hs us cs ws) (j : Nat) (o : Option Nat) : WA w (wr.setCell ⟨oa, j, none⟩ (optr o)) m b S pa oa ha ua n C l ps (os.set j o) hs us cs ws := by
  have hu : Upd [oa] wr (wr.setCell ⟨oa, j, none⟩ (optr o)) := (Upd.refl _ _).setCell (.inl (by simp)) _
  obtain ⟨q1, q2⟩ := h.cell (j := j) (x := optr o) h.oarr (by decide) (by decide) (by decide) (fun _ _ M => ⟨M.hg.ne h.oarr (by decide), M.hb.ne h.oarr (by decide)⟩)
  exact ⟨h.hS.upd hu (by simpa using h.hS.ne h.oarr (by decide)), q1, q2, h.parr.upd hu (by simpa using h.parr.ne h.oarr (by decide)), (h.oarr.set j (optr o)).congr (optrs_set _ _ _), h.harr.upd hu (by simpa using h.harr.ne h.oarr (by decide)), h.uarr.upd hu (by simpa using h.uarr.ne h.oarr (by decide)), h.hau, h.keeps.setCell h.ho _, h.hm, h.hb, h.hp, h.ho, h.hh, h.hu⟩
theorem toArray_set (xs : List Value) (j : Nat) (x : Value) : xs.toArray.setIfInBounds j x = (xs.set j x).toArray := by simp
theorem WA.setH (h : WA w wr m b S pa oa ha ua n C l ps os hs us cs ws) (j : Nat) (x : Value) : WA w (wr.setCell ⟨ha, j, none⟩ x) m b S pa oa ha ua n C l ps os (hs.set j x) us cs ws := by
  have hu : Upd [ha] wr (wr.setCell ⟨ha, j, none⟩ x) := (Upd.refl _ _).setCell (.inl (by simp)) _
  obtain ⟨q1, q2⟩ := h.cell (j := j) (x := x) h.harr (by decide) (by decide) (by decide) (fun _ _ M => ⟨M.hg.ne h.harr (by decide), M.hb.ne h.harr (by decide)⟩)
  exact ⟨h.hS.upd hu (by simpa using h.hS.ne h.harr (by decide)), q1, q2, h.parr.upd hu (by simpa using h.parr.ne h.harr (by decide)), h.oarr.upd hu (by simpa using h.oarr.ne h.harr (by decide)), (h.harr.set j x).congr (toArray_set _ _ _), h.uarr.upd hu (by simpa using Ne.symm h.hau), h.hau, h.keeps.setCell h.hh _, h.hm, h.hb, h.hp, h.ho, h.hh, h.hu⟩
theorem WA.setU (h : WA w wr m b S pa oa ha ua n C l ps os hs us cs ws) (j : Nat) (x : Value) : WA w (wr.setCell ⟨ua, j, none⟩ x) m b S pa oa ha ua n C l ps os hs (us.set j x) cs ws := by
  have hu : Upd [ua] wr (wr.setCell ⟨ua, j, none⟩ x) := (Upd.refl _ _).setCell (.inl (by simp)) _
  obtain ⟨q1, q2⟩ := h.cell (j := j) (x := x) h.uarr (by decide) (by decide) (by decide) (fun _ _ M => ⟨M.hg.ne h.uarr (by decide), M.hb.ne h.uarr (by decide)⟩)
  exact ⟨h.hS.upd hu (by simpa using h.hS.ne h.uarr (by decide)), q1, q2, h.parr.upd hu (by simpa using h.parr.ne h.uarr (by decide)), h.oarr.upd hu (by simpa using h.oarr.ne h.uarr (by decide)), h.harr.upd hu (by simpa using h.hau), (h.uarr.set j x).congr (toArray_set _ _ _), h.hau, h.keeps.setCell h.hu _, h.hm, h.hb, h.hp, h.ho, h.hh, h.hu⟩
theorem map_keep {α β : Type} {cs : List α} {i : Nat} {c c' : α} (f : α → β) (h : cs[i]? = some c) (e : f c' = f c) : (cs.set i c').map f = cs.map f := by
  rw [List.map_set, e]
  exact setIdx_same (by simp [h])
/-- The arrays say what the places are. -/
theorem WA.maps {cs' : List Loc} (H : WA w wr m b S pa oa ha ua n C l ps os hs us cs' ws) (hc : cs[i]? = some c) (e : cs' = cs.set i c') (e1 : (ps = cs.map Loc.p ∧ c'.p = c.p) ∨ ps = (cs.map Loc.p).set i c'.p) (e2 : (os = cs.map Loc.o ∧ c'.o = c.o) ∨ os = (cs.map Loc.o).set i c'.o)
    (e3 : (hs = cs.map Loc.h ∧ c'.h = c.h) ∨ hs = (cs.map Loc.h).set i c'.h) (e4 : (us = cs.map Loc.u ∧ c'.u = c.u) ∨ us = (cs.map Loc.u).set i c'.u) :
    WA w wr m b S pa oa ha ua n C l (cs'.map Loc.p) (cs'.map Loc.o) (cs'.map Loc.h) (cs'.map Loc.u) cs' ws := by
  have q1 : cs'.map Loc.p = ps := by
    rw [e]; rcases e1 with ⟨rfl, h⟩ | rfl
    · exact map_keep _ hc h
    · exact List.map_set
  have q2 : cs'.map Loc.o = os := by
    rw [e]; rcases e2 with ⟨rfl, h⟩ | rfl
    · exact map_keep _ hc h
    · exact List.map_set
  have q3 : cs'.map Loc.h = hs := by
    rw [e]; rcases e3 with ⟨rfl, h⟩ | rfl
    · exact map_keep _ hc h
    · exact List.map_set
  have q4 : cs'.map Loc.u = us := by
    rw [e]; rcases e4 with ⟨rfl, h⟩ | rfl
    · exact map_keep _ hc h
    · exact List.map_set
  rw [q1, q2, q3, q4]
  exact H
theorem WA.poRep {s : Po} (h : WA w wr m b S pa oa ha ua n C l ps os hs us cs ws) (hc : cs[i]? = some c) (hk : ws[i]? = some k) (hmd : k.md = .po s) (hg : c.o = some g) : PoRep wr w.heap.size g S c.v s := by
  obtain ⟨md, rh, ru⟩ := h.gang.rep i c k hc hk
  rw [hmd] at md
  obtain ⟨_, g', e, hr⟩ := md
  rw [hg] at e; cases e
  exact hr
theorem WA.puRep {s : Pu} (h : WA w wr m b S pa oa ha ua n C l ps os hs us cs ws) (hc : cs[i]? = some c) (hk : ws[i]? = some k) (hmd : k.md = .pu s) (hg : c.p = some g) : PuRep wr w.heap.size g S c.v s := by
  obtain ⟨md, rh, ru⟩ := h.gang.rep i c k hc hk
  rw [hmd] at md
  obtain ⟨_, g', e, hr⟩ := md
  rw [hg] at e; cases e
  exact hr
/-- A slice beside all that. -/
theorem WA.off (h : WA w wr m b S pa oa ha ua n C l ps os hs us cs ws) {B : Nat} {v : Value} {xs : List Value} (R : Row B 3 wr v xs) (hB : w.heap.size ≤ B) (hd : ∀ y ∈ ownB v, y ∉ (cs.map Loc.foot).flatten) (hu : Upd (ownB v) wr w') : WA w w' m b S pa oa ha ua n C l ps os hs us cs ws := by
  obtain ⟨cc, x, M, hcc⟩ := h.mem
  have key : ∀ {q : Nat} {xs : Array Value} {t : TypeId}, Has wr q xs t → t ≠ 3 → q ∉ ownB v := fun hq h1 hy => R.ne hq (Ne.symm h1) _ hy rfl
  exact ⟨h.hS.upd hu (key h.hS (by decide)), ⟨cc, x, M.upd hu (key M.hg (by decide)) (key M.hb (by decide)), hcc⟩, h.gang.upd (wkFrames _ _) hu (fun y hy hy2 => hd y hy2 hy), h.parr.upd hu (key h.parr (by decide)), h.oarr.upd hu (key h.oarr (by decide)), h.harr.upd hu (key h.harr (by decide)), h.uarr.upd hu (key h.uarr (by decide)), h.hau,
    h.keeps.upd hu (fun y hy => by have := (R.own y hy).1; omega), h.hm, h.hb, h.hp, h.ho, h.hh, h.hu⟩
/-- His Push is done: the cells are let go. -/
theorem WA.donePu {s : Pu} (H : WA w wr m b S pa oa ha ua n C l (cs.map Loc.p) (cs.map Loc.o) (cs.map Loc.h) (cs.map Loc.u) cs (ws.set i ⟨.pu s, k.has, k.puts⟩)) (hc : cs[i]? = some c) (hk : ws[i]? = some k) (h4 : 4 ≤ s.ph) :
    ∃ cs', WA w ((wr.setCell ⟨pa, i, none⟩ (.pointer none)).setCell ⟨ua, i, none⟩ (.slice none 0 0)) m b S pa oa ha ua n C l (cs'.map Loc.p) (cs'.map Loc.o) (cs'.map Loc.h) (cs'.map Loc.u) cs' (ws.set i (puWk s k)) := by
  have hk1 : (ws.set i ⟨.pu s, k.has, k.puts⟩)[i]? = some ⟨.pu s, k.has, k.puts⟩ := List.getElem?_set_self (List.getElem?_eq_some_iff.1 hk).1
  have md := (H.gang.rep i c _ hc hk1).md
  obtain ⟨ho, _⟩ := md
  have H2 := (((H.setP i none).setU i (.slice none 0 0)).endPu hc hk1 rfl).maps hc rfl (.inr rfl) (.inl ⟨rfl, ho.symm⟩) (.inl ⟨rfl, rfl⟩) (.inr rfl)
  rw [List.set_set] at H2
  have e : puWk s k = ⟨.no, k.has, []⟩ := by unfold puWk; rw [if_pos h4]
  rw [e]
  exact ⟨_, H2⟩
theorem WA.keepPu {s : Pu} (H : WA w wr m b S pa oa ha ua n C l (cs.map Loc.p) (cs.map Loc.o) (cs.map Loc.h) (cs.map Loc.u) cs (ws.set i ⟨.pu s, k.has, k.puts⟩)) (h4 : ¬ 4 ≤ s.ph) :
    WA w wr m b S pa oa ha ua n C l (cs.map Loc.p) (cs.map Loc.o) (cs.map Loc.h) (cs.map Loc.u) cs (ws.set i (puWk s k)) := by
  have e : puWk s k = ⟨.pu s, k.has, k.puts⟩ := by unfold puWk; rw [if_neg h4]
  rw [e]; exact H
theorem WA.keepPo {s : Po} {v : Value} (H : WA w wr m b S pa oa ha ua n C l (cs.map Loc.p) (cs.map Loc.o) (cs.map Loc.h) (cs.map Loc.u) (cs.set i { c with v := v }) (ws.set i ⟨.po s, k.has, k.puts⟩)) (hc : cs[i]? = some c) (h3 : ¬ 3 ≤ s.ph) :
    ∃ cs', WA w wr m b S pa oa ha ua n C l (cs'.map Loc.p) (cs'.map Loc.o) (cs'.map Loc.h) (cs'.map Loc.u) cs' (ws.set i (poWk s k)) := by
  have e : poWk s k = ⟨.po s, k.has, k.puts⟩ := by unfold poWk; rw [if_neg h3]
  rw [e]
  exact ⟨_, H.maps (c' := { c with v := v }) hc rfl (.inl ⟨rfl, rfl⟩) (.inl ⟨rfl, rfl⟩) (.inl ⟨rfl, rfl⟩) (.inl ⟨rfl, rfl⟩)⟩
theorem WA.donePo {s : Po} {v v3 : Value} (H : WA w wr m b S pa oa ha ua n C l (cs.map Loc.p) (cs.map Loc.o) (cs.map Loc.h) (cs.map Loc.u) (cs.set i { c with v := v }) (ws.set i ⟨.po s, k.has, k.puts⟩)) (hc : cs[i]? = some c) (hk : ws[i]? = some k) (h3 : 3 ≤ s.ph)
    (hu : Upd (ownB c.h) wr w') (R : Row w.heap.size 3 w' v3 (ivals (k.has ++ s.got))) (O : ∀ z ∈ ownB v3, z ∈ ownB c.h ∨ z = wr.heap.size) :
    ∃ cs', WA w ((w'.setCell ⟨ha, i, none⟩ v3).setCell ⟨oa, i, none⟩ (.pointer none)) m b S pa oa ha ua n C l (cs'.map Loc.p) (cs'.map Loc.o) (cs'.map Loc.h) (cs'.map Loc.u) cs' (ws.set i (poWk s k)) := by
  have hc1 : (cs.set i { c with v := v })[i]? = some { c with v := v } := List.getElem?_set_self (List.getElem?_eq_some_iff.1 hc).1
  have hk1 : (ws.set i ⟨.po s, k.has, k.puts⟩)[i]? = some ⟨.po s, k.has, k.puts⟩ := List.getElem?_set_self (List.getElem?_eq_some_iff.1 hk).1
  have md := (H.gang.rep i _ _ hc1 hk1).md
  obtain ⟨hp, _⟩ := md
  have H2 := H.endPo (v3 := v3) (got := s.got) hc1 hk1 rfl hu R O
  rw [List.set_set, List.set_set] at H2
  have H3 := (H2.setH i v3).setO i none
  have e : poWk s k = ⟨.no, k.has ++ s.got, k.puts⟩ := by unfold poWk; rw [if_pos h3]
  rw [e]
  exact ⟨_, H3.maps (c := c) hc rfl (.inl ⟨rfl, hp.symm⟩) (.inr rfl) (.inr rfl) (.inl ⟨rfl, rfl⟩)⟩
end
end Go.Proofs.Ytcohhfndaogikaa
