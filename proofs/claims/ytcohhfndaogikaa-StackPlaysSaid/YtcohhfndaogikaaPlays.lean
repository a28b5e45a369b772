/- The relation of StackPlays: the program's machines and the document's, side by side, and what each call does. -/
import Derived.Test.YtcohhfndaogikaaWhole
import Derived.Test.YtcohhfndaogikaaRPopU
namespace Go.Proofs.Ytcohhfndaogikaa
set_option linter.unusedVariables false
set_option linter.unusedSimpArgs false
open Go Go.RowKit
set_option maxRecDepth 100000
set_option maxHeartbeats 1000000

theorem RPuRep.upd {w w' : World} {B g S : Nat} {v : Value} {T : List Nat} {s : Pu} (h : RPuRep w B g S v s) (hu : Upd T w w') (h1 : g ∉ T) (h2 : ∀ y ∈ ownB v, y ∉ T) : RPuRep w' B g S v s := ⟨h.has.upd hu h1, h.row.upd hu h2⟩
theorem RPoRep.upd {w w' : World} {B g S : Nat} {v : Value} {T : List Nat} {s : Po} (h : RPoRep w B g S v s) (hu : Upd T w w') (h1 : g ∉ T) (h2 : ∀ y ∈ ownB v, y ∉ T) : RPoRep w' B g S v s := ⟨h.has.upd hu h1, h.row.upd hu h2⟩
/-- Where a worker's things lie: the program's machines, its slice, what he has, the document's machines, its slice. -/
structure PLoc where
  p : Option Nat
  o : Option Nat
  v : Value
  h : Value
  x : Option Nat
  y : Option Nat
  d : Value
def PLoc.segs (c : PLoc) : List (List Nat) := [c.p.toList, c.o.toList, ownB c.v, ownB c.h, c.x.toList, c.y.toList, ownB c.d]
def PLoc.foot (c : PLoc) : List Nat := c.segs.flatten
def PMdRep (B S : Nat) (w : World) (c : PLoc) : Md → Prop
  | .no => c.p = none ∧ c.o = none ∧ c.v = .slice none 0 0
  | .pu s => c.o = none ∧ ∃ g, c.p = some g ∧ PuRep w B g S c.v s
  | .po s => c.p = none ∧ ∃ g, c.o = some g ∧ PoRep w B g S c.v s
def RMdRep (B R : Nat) (w : World) (c : PLoc) : Md → Prop
  | .no => c.x = none ∧ c.y = none ∧ c.d = .slice none 0 0
  | .pu s => c.y = none ∧ ∃ g, c.x = some g ∧ RPuRep w B g R c.d s
  | .po s => c.x = none ∧ ∃ g, c.y = some g ∧ RPoRep w B g R c.d s
/-- A worker, and the document's machine of his. -/
structure PWk where
  k : Wk
  r : Md
structure PkRep (B S R : Nat) (w : World) (c : PLoc) (q : PWk) : Prop where
  md : PMdRep B S w c q.k.md
  rmd : RMdRep B R w c q.r
  has : Row B 3 w c.h (ivals q.k.has)
section
variable {w w' : World} {B S R g : Nat} {v : Value} {T : List Nat} {c : PLoc} {q : PWk}
theorem PLoc.in_p (hp : c.p = some g) : g ∈ c.foot := by simp [PLoc.foot, PLoc.segs, hp]
theorem PLoc.in_o (hp : c.o = some g) : g ∈ c.foot := by simp [PLoc.foot, PLoc.segs, hp]
theorem PLoc.in_v {y : Nat} (h : y ∈ ownB c.v) : y ∈ c.foot := by simp [PLoc.foot, PLoc.segs, h]
theorem PLoc.in_h {y : Nat} (h : y ∈ ownB c.h) : y ∈ c.foot := by simp [PLoc.foot, PLoc.segs, h]
theorem PLoc.in_x (hp : c.x = some g) : g ∈ c.foot := by simp [PLoc.foot, PLoc.segs, hp]
theorem PLoc.in_y (hp : c.y = some g) : g ∈ c.foot := by simp [PLoc.foot, PLoc.segs, hp]
theorem PLoc.in_d {y : Nat} (h : y ∈ ownB c.d) : y ∈ c.foot := by simp [PLoc.foot, PLoc.segs, h]
theorem PMdRep.upd {md : Md} (h : PMdRep B S w c md) (hu : Upd T w w') (h1 : ∀ g, c.p = some g → g ∉ T) (h2 : ∀ g, c.o = some g → g ∉ T) (h3 : ∀ y ∈ ownB c.v, y ∉ T) : PMdRep B S w' c md := by
  cases md with
  | no => exact h
  | pu s => obtain ⟨a, g, e, r⟩ := h; exact ⟨a, g, e, r.upd hu (h1 g e) h3⟩
  | po s => obtain ⟨a, g, e, r⟩ := h; exact ⟨a, g, e, r.upd hu (h2 g e) h3⟩
theorem RMdRep.upd {md : Md} (h : RMdRep B R w c md) (hu : Upd T w w') (h1 : ∀ g, c.x = some g → g ∉ T) (h2 : ∀ g, c.y = some g → g ∉ T) (h3 : ∀ y ∈ ownB c.d, y ∉ T) : RMdRep B R w' c md := by
  cases md with
  | no => exact h
  | pu s => obtain ⟨a, g, e, r⟩ := h; exact ⟨a, g, e, r.upd hu (h1 g e) h3⟩
  | po s => obtain ⟨a, g, e, r⟩ := h; exact ⟨a, g, e, r.upd hu (h2 g e) h3⟩
theorem pkFrames (B S R : Nat) : Frames PLoc.foot (PkRep B S R) := by
  intro w w' T c k h hu hT
  exact ⟨h.md.upd hu (fun g e => hT g (PLoc.in_p e)) (fun g e => hT g (PLoc.in_o e)) (fun y hy => hT y (PLoc.in_v hy)), h.rmd.upd hu (fun g e => hT g (PLoc.in_x e)) (fun g e => hT g (PLoc.in_y e)) (fun y hy => hT y (PLoc.in_d hy)), h.has.upd hu (fun y hy => hT y (PLoc.in_h hy))⟩
theorem PMdRep.ne {md : Md} {cs : Array Value} {t : TypeId} (h : PMdRep B S w c md) (hg : Has w g cs t) (h1 : t ≠ 140) (h2 : t ≠ 146) (h3 : t ≠ 3) : c.p ≠ some g ∧ c.o ≠ some g ∧ g ∉ ownB c.v := by
  cases md with
  | no => obtain ⟨a, b, e⟩ := h; rw [a, b, e]; simp
  | pu s => obtain ⟨a, g', e, r⟩ := h; rw [a, e]; exact ⟨fun e2 => by cases e2; exact Has.ne hg r.has h1 rfl, by simp, fun hm => r.row.ne hg (Ne.symm h3) g hm rfl⟩
  | po s => obtain ⟨a, g', e, r⟩ := h; rw [a, e]; exact ⟨by simp, fun e2 => by cases e2; exact Has.ne hg r.has h2 rfl, fun hm => r.row.ne hg (Ne.symm h3) g hm rfl⟩
theorem RMdRep.ne {md : Md} {cs : Array Value} {t : TypeId} (h : RMdRep B R w c md) (hg : Has w g cs t) (h1 : t ≠ 150) (h2 : t ≠ 152) (h3 : t ≠ 3) : c.x ≠ some g ∧ c.y ≠ some g ∧ g ∉ ownB c.d := by
  cases md with
  | no => obtain ⟨a, b, e⟩ := h; rw [a, b, e]; simp
  | pu s => obtain ⟨a, g', e, r⟩ := h; rw [a, e]; exact ⟨fun e2 => by cases e2; exact Has.ne hg r.has h1 rfl, by simp, fun hm => r.row.ne hg (Ne.symm h3) g hm rfl⟩
  | po s => obtain ⟨a, g', e, r⟩ := h; rw [a, e]; exact ⟨by simp, fun e2 => by cases e2; exact Has.ne hg r.has h2 rfl, fun hm => r.row.ne hg (Ne.symm h3) g hm rfl⟩
/-- A block of another type is not his. -/
def plain (t : TypeId) : Bool := decide (t ≠ 140) && decide (t ≠ 146) && decide (t ≠ 3) && decide (t ≠ 150) && decide (t ≠ 152)
theorem pfoot_ne {cs : Array Value} {t : TypeId} (h : PkRep B S R w c q) (hg : Has w g cs t) (ht : plain t = true) : g ∉ c.foot := by
  simp only [plain, Bool.and_eq_true, decide_eq_true_eq] at ht
  obtain ⟨⟨⟨⟨h1, h2⟩, h3⟩, h4⟩, h5⟩ := ht
  obtain ⟨n1, n2, n3⟩ := h.md.ne hg h1 h2 h3
  obtain ⟨n4, n5, n6⟩ := h.rmd.ne hg h4 h5 h3
  have n7 : g ∉ ownB c.h := fun hm => h.has.ne hg (Ne.symm h3) g hm rfl
  intro hm
  simp only [PLoc.foot, PLoc.segs, List.flatten_cons, List.flatten_nil, List.append_nil, List.mem_append, Option.mem_toList] at hm
  rcases hm with hm | hm | hm | hm | hm | hm | hm
  · exact n1 hm
  · exact n2 hm
  · exact n3 hm
  · exact n7 hm
  · exact n4 hm
  · exact n5 hm
  · exact n6 hm
end
def handsOf (ps os xs ys ls : List Value) : Array Value := (ps ++ (os ++ (xs ++ (ys ++ ls)))).toArray
/-- All that stands. -/
structure PA (w wr : World) (m b S g gb R hb n : Nat) (l l2 : List Int) (cc c2 : Int) (ps os xs ys ls : List Value) (cs : List PLoc) (ks : List PWk) : Prop where
  hS : Has wr S (stackOf m (0 : Nat) (2 : Nat) n) 138
  hR : Has wr R (rstackOf g (0 : Nat) (2 : Nat) n) 98
  mem : ∃ x, Mem wr m b (n + 2) l cc x
  rmem : RMem wr g gb (n + 2) l2 c2
  gang : Gang PLoc.foot (PkRep w.heap.size S R) wr w.heap.size cs ks
  hands : Has wr hb (handsOf ps os xs ys ls) 108
  bne : b ≠ gb
  keeps : Keeps w wr
  hm : w.heap.size ≤ m
  hbb : w.heap.size ≤ b
  hg : w.heap.size ≤ g
  hgb : w.heap.size ≤ gb
  hh : w.heap.size ≤ hb
section
variable {w wr w' : World} {m b S g gb R hb n : Nat} {l l2 l' l2' : List Int} {cc c2 cc' c2' : Int} {ps os xs ys ls : List Value} {cs : List PLoc} {ks : List PWk} {T : List Nat} {i t : Nat} {c c' : PLoc} {q q' : PWk}
theorem PA.out (h : PA w wr m b S g gb R hb n l l2 cc c2 ps os xs ys ls cs ks) {u : Nat} {cs' : Array Value} {t : TypeId} (hg : Has wr u cs' t) (ht : plain t = true) : u ∉ (cs.map PLoc.foot).flatten :=
  h.gang.out (fun _ _ hr => pfoot_ne hr hg ht)
theorem PA.inn (hc : cs[i]? = some c) : ∀ y ∈ c.foot, y ∈ (cs.map PLoc.foot).flatten := fun y hy => foot_mem (F := cs.map PLoc.foot) (i := i) (f := c.foot) (by simp [hc]) hy
theorem PA.later (h : PA w wr m b S g gb R hb n l l2 cc c2 ps os xs ys ls cs ks) (hk : Keeps wr w') : PA w w' m b S g gb R hb n l l2 cc c2 ps os xs ys ls cs ks := by
  obtain ⟨x, M⟩ := h.mem
  exact ⟨h.hS.keeps hk, h.hR.keeps hk, ⟨x, M.keeps hk⟩, h.rmem.keeps hk, h.gang.keeps (pkFrames _ _ _) hk, h.hands.keeps hk, h.bne, h.keeps.trans hk, h.hm, h.hbb, h.hg, h.hgb, h.hh⟩
/-- One of the workers turns, a memory with him. -/
theorem PA.turnM (h : PA w wr m b S g gb R hb n l l2 cc c2 ps os xs ys ls cs ks) (hc : cs[i]? = some c) (hk : ks[i]? = some q) (hu : Upd T wr w') (hT : ∀ y ∈ T, y ∈ c.foot ∨ (y = m ∨ y = b) ∨ (y = g ∨ y = gb))
    (hM : ∃ x, Mem w' m b (n + 2) l' cc' x) (hRM : RMem w' g gb (n + 2) l2' c2') (hr : PkRep w.heap.size S R w' c' q') (hn : c'.foot.Nodup) (hf : ∀ y ∈ c'.foot, (y ∈ c.foot ∨ wr.heap.size ≤ y) ∧ y < w'.heap.size) :
    PA w w' m b S g gb R hb n l' l2' cc' c2' ps os xs ys ls (cs.set i c') (ks.set i q') := by
  obtain ⟨x, M⟩ := h.mem
  have hin := PA.inn hc
  have o1 := h.out M.hg (by decide)
  have o2 := h.out M.hb (by decide)
  have o3 := h.out h.rmem.hg (by decide)
  have o4 := h.out h.rmem.hb (by decide)
  have key : ∀ {u : Nat} {xs : Array Value} {t : TypeId}, Has wr u xs t → plain t = true → t ≠ 119 → t ≠ 22 → t ≠ 68 → u ∉ T := fun hq h1 h4 h5 h7 hy => by
    rcases hT _ hy with h6 | (h6 | h6) | (h6 | h6)
    · exact h.out hq h1 (hin _ h6)
    · subst h6; exact Has.ne hq M.hg h4 rfl
    · subst h6; exact Has.ne hq M.hb h5 rfl
    · subst h6; exact Has.ne hq h.rmem.hg h7 rfl
    · subst h6; exact Has.ne hq h.rmem.hb h5 rfl
  have own := h.gang.foot_own hc
  refine ⟨h.hS.upd hu (key h.hS (by decide) (by decide) (by decide) (by decide)), h.hR.upd hu (key h.hR (by decide) (by decide) (by decide) (by decide)), hM, hRM, ?_, h.hands.upd hu (key h.hands (by decide) (by decide) (by decide) (by decide)), h.bne, h.keeps.upd hu (fun y hy => ?_), h.hm, h.hbb, h.hg, h.hgb, h.hh⟩
  · refine h.gang.turn (pkFrames _ _ _) hc hk hu (fun y hy hy2 hyT => ?_) hr hn hf h.keeps.size
    rcases hT y hyT with h6 | (h6 | h6) | (h6 | h6)
    · exact hy2 h6
    · subst h6; exact o1 hy
    · subst h6; exact o2 hy
    · subst h6; exact o3 hy
    · subst h6; exact o4 hy
  · rcases hT y hy with h6 | (h6 | h6) | (h6 | h6)
    · exact (own y h6).1
    · rw [h6]; exact h.hm
    · rw [h6]; exact h.hbb
    · rw [h6]; exact h.hg
    · rw [h6]; exact h.hgb
theorem PA.turn (h : PA w wr m b S g gb R hb n l l2 cc c2 ps os xs ys ls cs ks) (hc : cs[i]? = some c) (hk : ks[i]? = some q) (hu : Upd T wr w') (hT : ∀ y ∈ T, y ∈ c.foot)
    (hr : PkRep w.heap.size S R w' c' q') (hn : c'.foot.Nodup) (hf : ∀ y ∈ c'.foot, (y ∈ c.foot ∨ wr.heap.size ≤ y) ∧ y < w'.heap.size) :
    PA w w' m b S g gb R hb n l l2 cc c2 ps os xs ys ls (cs.set i c') (ks.set i q') := by
  obtain ⟨x, M⟩ := h.mem
  have hin := PA.inn hc
  have o1 := h.out M.hg (by decide)
  have o2 := h.out M.hb (by decide)
  have o3 := h.out h.rmem.hg (by decide)
  have o4 := h.out h.rmem.hb (by decide)
  exact h.turnM hc hk hu (fun y hy => .inl (hT y hy)) ⟨x, M.upd hu (fun hy => o1 (hin _ (hT _ hy))) (fun hy => o2 (hin _ (hT _ hy)))⟩ (h.rmem.upd hu (fun hy => o3 (hin _ (hT _ hy))) (fun hy => o4 (hin _ (hT _ hy)))) hr hn hf
theorem PA.seg (h : PA w wr m b S g gb R hb n l l2 cc c2 ps os xs ys ls cs ks) (hc : cs[i]? = some c) (j : Nat) (f' : List Nat) {f : List Nat} (hj : c.segs[j]? = some f) (e : c'.foot = (c.segs.set j f').flatten) (hn : f'.Nodup) (hf : ∀ y ∈ f', (y ∈ f ∨ wr.heap.size ≤ y) ∧ y < w'.heap.size) (hsz0 : wr.heap.size ≤ w'.heap.size) :
    c'.foot.Nodup ∧ ∀ y ∈ c'.foot, (y ∈ c.foot ∨ wr.heap.size ≤ y) ∧ y < w'.heap.size := by
  have own := h.gang.foot_own hc
  rw [e]
  refine ⟨foot_set (F := c.segs) (h.gang.foot_nd hc) (fun y hy => (own y hy).2) hj hn (fun y hy => (hf y hy).1), fun y hy => ?_⟩
  rcases foot_set_mem hy with hy | hy
  · obtain ⟨h1 | h1, h2⟩ := hf y hy
    · exact ⟨.inl (foot_mem (F := c.segs) hj h1), h2⟩
    · exact ⟨.inr h1, h2⟩
  · have := own y hy
    exact ⟨.inl hy, by omega⟩
/-- Two segments are apart. -/
theorem PA.apart (h : PA w wr m b S g gb R hb n l l2 cc c2 ps os xs ys ls cs ks) (hc : cs[i]? = some c) (j1 j2 : Nat) {f1 f2 : List Nat} (h1 : c.segs[j1]? = some f1) (h2 : c.segs[j2]? = some f2) (hn : j2 ≠ j1) : ∀ y ∈ f2, y ∉ f1 :=
  foot_apart (F := c.segs) (h.gang.foot_nd hc) h1 h2 hn
theorem PA.memout (h : PA w wr m b S g gb R hb n l l2 cc c2 ps os xs ys ls cs ks) (hc : cs[i]? = some c) : ∀ y ∈ c.foot, y ≠ m ∧ y ≠ b ∧ y ≠ g ∧ y ≠ gb := fun y hy => by
  obtain ⟨x, M⟩ := h.mem
  have hin := PA.inn hc y hy
  exact ⟨fun e => h.out M.hg (by decide) (e ▸ hin), fun e => h.out M.hb (by decide) (e ▸ hin), fun e => h.out h.rmem.hg (by decide) (e ▸ hin), fun e => h.out h.rmem.hb (by decide) (e ▸ hin)⟩
theorem PA.memne (h : PA w wr m b S g gb R hb n l l2 cc c2 ps os xs ys ls cs ks) : m ≠ g ∧ m ≠ gb ∧ b ≠ g ∧ b ≠ gb := by
  obtain ⟨x, M⟩ := h.mem
  exact ⟨M.hg.ne h.rmem.hg (by decide), M.hg.ne h.rmem.hb (by decide), M.hb.ne h.rmem.hg (by decide), h.bne⟩
/-- His Push of the program's does an access. -/
theorem PA.pu {s : Pu} (h : PA w wr m b S g gb R hb n l l2 cc c2 ps os xs ys ls cs ks) (hc : cs[i]? = some c) (hk : ks[i]? = some q) (hmd : q.k.md = .pu s) (hg : c.p = some t) (L : StOk 0 2 n (n + 2) l) (H : PuOk n s) (hcc : cc ≤ 1000000) :
    Calls Try.prog 56 #[.pointer (some ⟨t, 0, none⟩)] wr fun e w' => e = .returned (.bool (decide (s.ph < 4))) ∧ PA w w' m b S g gb R hb n (puMem 0 2 n l s) l2 (cc + puCount s) c2 ps os xs ys ls cs (ks.set i ⟨⟨.pu (puStep 0 l s), q.k.has, q.k.puts⟩, q.r⟩) := by
  obtain ⟨x, M⟩ := h.mem
  obtain ⟨md, rmd, rh⟩ := h.gang.rep i c q hc hk
  rw [hmd] at md
  obtain ⟨ho, t', ht', hr⟩ := md
  rw [hg] at ht'; cases ht'
  have mo := h.memout hc
  obtain ⟨n1, n2, n3, n4⟩ := h.memne
  have mt := mo t (PLoc.in_p hg)
  have own := h.gang.foot_own hc
  have a0 : ∀ y, y ∈ c.foot → y ≠ t → y ∉ [t, m, b] := fun y hy hne => by
    simp only [List.mem_cons, List.not_mem_nil, or_false, not_or]
    exact ⟨hne, (mo y hy).1, (mo y hy).2.1⟩
  have ap : ∀ (j2 : Nat) {f2 : List Nat}, c.segs[j2]? = some f2 → j2 ≠ 0 → ∀ y ∈ f2, y ≠ t := fun j2 f2 h2 hn y hy e => by
    have := h.apart hc 0 j2 rfl h2 hn y hy
    rw [hg] at this
    simp at this
    exact this e
  refine (puStep_c hr h.hS M L H (by omega)).mono ?_
  rintro e w' ⟨rfl, hu, hA, x', M'⟩
  have hsz := hu.size
  have Q := h.turnM (cc' := cc + puCount s) (c2' := c2) (l2' := l2) (c' := c) (q' := ⟨⟨.pu (puStep 0 l s), q.k.has, q.k.puts⟩, q.r⟩) hc hk hu (fun y hy => by
    simp only [List.mem_cons, List.not_mem_nil, or_false] at hy
    rcases hy with rfl | rfl | rfl
    · exact .inl (PLoc.in_p hg)
    · exact .inr (.inl (.inl rfl))
    · exact .inr (.inl (.inr rfl))) ⟨x', M'⟩ (h.rmem.upd hu (by simp; exact ⟨mt.2.2.1.symm, n1.symm, n3.symm⟩) (by simp; exact ⟨mt.2.2.2.symm, n2.symm, n4.symm⟩))
    ⟨⟨ho, t, hg, hA⟩, rmd.upd hu (fun z e => a0 z (PLoc.in_x e) (ap 4 (f2 := c.x.toList) rfl (by decide) z (by simp [e]))) (fun z e => a0 z (PLoc.in_y e) (ap 5 (f2 := c.y.toList) rfl (by decide) z (by simp [e]))) (fun y hy => a0 y (PLoc.in_d hy) (ap 6 rfl (by decide) y hy)), rh.upd hu (fun y hy => a0 y (PLoc.in_h hy) (ap 3 rfl (by decide) y hy))⟩ (h.gang.foot_nd hc) (fun y hy => ⟨.inl hy, by have := own y hy; omega⟩)
  rw [setIdx_same hc] at Q
  exact ⟨rfl, Q⟩
/-- His Push of the document's does an access. -/
theorem PA.rpu {s : Pu} (h : PA w wr m b S g gb R hb n l l2 cc c2 ps os xs ys ls cs ks) (hc : cs[i]? = some c) (hk : ks[i]? = some q) (hmd : q.r = .pu s) (hg : c.x = some t) (L : StOk 0 2 n (n + 2) l2) (H : PuOk n s) (hcc : c2 ≤ 1000000) :
    Calls Try.prog 95 #[.pointer (some ⟨t, 0, none⟩)] wr fun e w' => e = .returned (.bool (decide (s.ph < 4))) ∧ PA w w' m b S g gb R hb n l (puMem 0 2 n l2 s) cc (c2 + puCount s) ps os xs ys ls cs (ks.set i ⟨q.k, .pu (puStep 0 l2 s)⟩) := by
  obtain ⟨x, M⟩ := h.mem
  obtain ⟨md, rmd, rh⟩ := h.gang.rep i c q hc hk
  rw [hmd] at rmd
  obtain ⟨ho, t', ht', hr⟩ := rmd
  rw [hg] at ht'; cases ht'
  have mo := h.memout hc
  obtain ⟨n1, n2, n3, n4⟩ := h.memne
  have mt := mo t (PLoc.in_x hg)
  have own := h.gang.foot_own hc
  have a0 : ∀ y, y ∈ c.foot → y ≠ t → y ∉ [t, g, gb] := fun y hy hne => by
    simp only [List.mem_cons, List.not_mem_nil, or_false, not_or]
    exact ⟨hne, (mo y hy).2.2.1, (mo y hy).2.2.2⟩
  have ap : ∀ (j2 : Nat) {f2 : List Nat}, c.segs[j2]? = some f2 → j2 ≠ 4 → ∀ y ∈ f2, y ≠ t := fun j2 f2 h2 hn y hy e => by
    have := h.apart hc 4 j2 rfl h2 hn y hy
    rw [hg] at this
    simp at this
    exact this e
  refine (rpuStep_c hr h.hR h.rmem L H (by omega)).mono ?_
  rintro e w' ⟨rfl, hu, hA, M'⟩
  have hsz := hu.size
  have Q := h.turnM (cc' := cc) (c2' := c2 + puCount s) (l' := l) (c' := c) (q' := ⟨q.k, .pu (puStep 0 l2 s)⟩) hc hk hu (fun y hy => by
    simp only [List.mem_cons, List.not_mem_nil, or_false] at hy
    rcases hy with rfl | rfl | rfl
    · exact .inl (PLoc.in_x hg)
    · exact .inr (.inr (.inl rfl))
    · exact .inr (.inr (.inr rfl))) ⟨x, M.upd hu (by simp; exact ⟨mt.1.symm, n1, n2⟩) (by simp; exact ⟨mt.2.1.symm, n3, n4⟩)⟩ M'
    ⟨md.upd hu (fun z e => a0 z (PLoc.in_p e) (ap 0 (f2 := c.p.toList) rfl (by decide) z (by simp [e]))) (fun z e => a0 z (PLoc.in_o e) (ap 1 (f2 := c.o.toList) rfl (by decide) z (by simp [e]))) (fun y hy => a0 y (PLoc.in_v hy) (ap 2 rfl (by decide) y hy)), ⟨ho, t, hg, hA⟩, rh.upd hu (fun y hy => a0 y (PLoc.in_h hy) (ap 3 rfl (by decide) y hy))⟩ (h.gang.foot_nd hc) (fun y hy => ⟨.inl hy, by have := own y hy; omega⟩)
  rw [setIdx_same hc] at Q
  exact ⟨rfl, Q⟩
/-- His Pop of the program's does an access. -/
theorem PA.po {s : Po} (h : PA w wr m b S g gb R hb n l l2 cc c2 ps os xs ys ls cs ks) (hc : cs[i]? = some c) (hk : ks[i]? = some q) (hmd : q.k.md = .po s) (hg : c.o = some t) (L : StOk 0 2 n (n + 2) l) (H : PoOk n s) (hcc : cc ≤ 1000000) :
    Calls Try.prog 48 #[.pointer (some ⟨t, 0, none⟩)] wr fun e w' => ∃ v', e = .returned (.bool (decide (s.ph < 3))) ∧ PA w w' m b S g gb R hb n (poMem 0 l s) l2 (cc + poCount s) c2 ps os xs ys ls (cs.set i { c with v := v' }) (ks.set i ⟨⟨.po (poStep 0 2 n l s), q.k.has, q.k.puts⟩, q.r⟩) := by
  obtain ⟨x, M⟩ := h.mem
  obtain ⟨md, rmd, rh⟩ := h.gang.rep i c q hc hk
  rw [hmd] at md
  obtain ⟨ho, t', ht', hr⟩ := md
  rw [hg] at ht'; cases ht'
  have mo := h.memout hc
  obtain ⟨n1, n2, n3, n4⟩ := h.memne
  have mt := mo t (PLoc.in_o hg)
  have own := h.gang.foot_own hc
  have a0 : ∀ y, y ∈ c.foot → y ≠ t → y ∉ ownB c.v → y ∉ t :: m :: b :: ownB c.v := fun y hy hne hv => by
    simp only [List.mem_cons, not_or]
    exact ⟨hne, (mo y hy).1, (mo y hy).2.1, hv⟩
  have ap : ∀ (j2 : Nat) {f2 : List Nat}, c.segs[j2]? = some f2 → j2 ≠ 1 → ∀ y ∈ f2, y ≠ t := fun j2 f2 h2 hn y hy e => by
    have := h.apart hc 1 j2 rfl h2 hn y hy
    rw [hg] at this
    simp at this
    exact this e
  have av : ∀ (j2 : Nat) {f2 : List Nat}, c.segs[j2]? = some f2 → j2 ≠ 2 → ∀ y ∈ f2, y ∉ ownB c.v := fun j2 f2 h2 hn y hy => h.apart hc 2 j2 rfl h2 hn y hy
  refine (poStep_c hr h.hS M L H h.keeps.size (by omega)).mono ?_
  rintro e w' ⟨v', rfl, hu, hA, ⟨x', M'⟩, hv⟩
  have hsz := hu.size
  have nv : ∀ y ∈ ownB c.v, y ≠ g ∧ y ≠ gb := fun y hy => (mo y (PLoc.in_v hy)).2.2
  obtain ⟨q1, q2⟩ := h.seg (w' := w') (c' := { c with v := v' }) hc 2 (ownB v') rfl rfl (ownB_nodup _) (fun y hy => ⟨hv y hy, (hA.row.own y hy).2⟩) hsz
  refine ⟨v', rfl, h.turnM (cc' := cc + poCount s) (c2' := c2) (l2' := l2) hc hk hu (fun y hy => by
    simp only [List.mem_cons] at hy
    rcases hy with rfl | rfl | rfl | hy
    · exact .inl (PLoc.in_o hg)
    · exact .inr (.inl (.inl rfl))
    · exact .inr (.inl (.inr rfl))
    · exact .inl (PLoc.in_v hy)) ⟨x', M'⟩ (h.rmem.upd hu (by simp only [List.mem_cons, not_or]; exact ⟨mt.2.2.1.symm, n1.symm, n3.symm, fun hx => (nv _ hx).1 rfl⟩) (by simp only [List.mem_cons, not_or]; exact ⟨mt.2.2.2.symm, n2.symm, n4.symm, fun hx => (nv _ hx).2 rfl⟩))
    ⟨⟨ho, t, hg, hA⟩, ?_, rh.upd hu (fun y hy => a0 y (PLoc.in_h hy) (ap 3 rfl (by decide) y hy) (av 3 rfl (by decide) y hy))⟩ q1 q2⟩
  have := rmd.upd hu (fun z e => a0 z (PLoc.in_x e) (ap 4 (f2 := c.x.toList) rfl (by decide) z (by simp [e])) (av 4 (f2 := c.x.toList) rfl (by decide) z (by simp [e]))) (fun z e => a0 z (PLoc.in_y e) (ap 5 (f2 := c.y.toList) rfl (by decide) z (by simp [e])) (av 5 (f2 := c.y.toList) rfl (by decide) z (by simp [e]))) (fun y hy => a0 y (PLoc.in_d hy) (ap 6 rfl (by decide) y hy) (av 6 rfl (by decide) y hy))
  cases hq : q.r <;> rw [hq] at this <;> exact this
/-- His Pop of the document's does an access. -/
theorem PA.rpo {s : Po} (h : PA w wr m b S g gb R hb n l l2 cc c2 ps os xs ys ls cs ks) (hc : cs[i]? = some c) (hk : ks[i]? = some q) (hmd : q.r = .po s) (hg : c.y = some t) (L : StOk 0 2 n (n + 2) l2) (H : PoOk n s) (hgl : s.got.length ≤ 100000) (hcc : c2 ≤ 1000000) :
    Calls Try.prog 96 #[.pointer (some ⟨t, 0, none⟩)] wr fun e w' => ∃ v', e = .returned (.bool (decide (s.ph < 3))) ∧ PA w w' m b S g gb R hb n l (poMem 0 l2 s) cc (c2 + poCount s) ps os xs ys ls (cs.set i { c with d := v' }) (ks.set i ⟨q.k, .po (poStep 0 2 n l2 s)⟩) := by
  obtain ⟨x, M⟩ := h.mem
  obtain ⟨md, rmd, rh⟩ := h.gang.rep i c q hc hk
  rw [hmd] at rmd
  obtain ⟨ho, t', ht', hr⟩ := rmd
  rw [hg] at ht'; cases ht'
  have mo := h.memout hc
  obtain ⟨n1, n2, n3, n4⟩ := h.memne
  have mt := mo t (PLoc.in_y hg)
  have own := h.gang.foot_own hc
  have a0 : ∀ y, y ∈ c.foot → y ≠ t → y ∉ ownB c.d → y ∉ t :: g :: gb :: ownB c.d := fun y hy hne hv => by
    simp only [List.mem_cons, not_or]
    exact ⟨hne, (mo y hy).2.2.1, (mo y hy).2.2.2, hv⟩
  have ap : ∀ (j2 : Nat) {f2 : List Nat}, c.segs[j2]? = some f2 → j2 ≠ 5 → ∀ y ∈ f2, y ≠ t := fun j2 f2 h2 hn y hy e => by
    have := h.apart hc 5 j2 rfl h2 hn y hy
    rw [hg] at this
    simp at this
    exact this e
  have av : ∀ (j2 : Nat) {f2 : List Nat}, c.segs[j2]? = some f2 → j2 ≠ 6 → ∀ y ∈ f2, y ∉ ownB c.d := fun j2 f2 h2 hn y hy => h.apart hc 6 j2 rfl h2 hn y hy
  refine (rpoStep_c hr h.hR h.rmem L H hgl h.keeps.size (by omega)).mono ?_
  rintro e w' ⟨v', rfl, hu, hA, M', hv⟩
  have hsz := hu.size
  have nv : ∀ y ∈ ownB c.d, y ≠ m ∧ y ≠ b := fun y hy => ⟨(mo y (PLoc.in_d hy)).1, (mo y (PLoc.in_d hy)).2.1⟩
  obtain ⟨q1, q2⟩ := h.seg (w' := w') (c' := { c with d := v' }) hc 6 (ownB v') rfl rfl (ownB_nodup _) (fun y hy => ⟨hv y hy, (hA.row.own y hy).2⟩) hsz
  refine ⟨v', rfl, h.turnM (cc' := cc) (c2' := c2 + poCount s) (l' := l) hc hk hu (fun y hy => by
    simp only [List.mem_cons] at hy
    rcases hy with rfl | rfl | rfl | hy
    · exact .inl (PLoc.in_y hg)
    · exact .inr (.inr (.inl rfl))
    · exact .inr (.inr (.inr rfl))
    · exact .inl (PLoc.in_d hy)) ⟨x, M.upd hu (by simp only [List.mem_cons, not_or]; exact ⟨mt.1.symm, n1, n2, fun hx => (nv _ hx).1 rfl⟩) (by simp only [List.mem_cons, not_or]; exact ⟨mt.2.1.symm, n3, n4, fun hx => (nv _ hx).2 rfl⟩)⟩ M'
    ⟨?_, ⟨ho, t, hg, hA⟩, rh.upd hu (fun y hy => a0 y (PLoc.in_h hy) (ap 3 rfl (by decide) y hy) (av 3 rfl (by decide) y hy))⟩ q1 q2⟩
  have := md.upd hu (fun z e => a0 z (PLoc.in_p e) (ap 0 (f2 := c.p.toList) rfl (by decide) z (by simp [e])) (av 0 (f2 := c.p.toList) rfl (by decide) z (by simp [e]))) (fun z e => a0 z (PLoc.in_o e) (ap 1 (f2 := c.o.toList) rfl (by decide) z (by simp [e])) (av 1 (f2 := c.o.toList) rfl (by decide) z (by simp [e]))) (fun y hy => a0 y (PLoc.in_v hy) (ap 2 rfl (by decide) y hy) (av 2 rfl (by decide) y hy))
  cases hq : q.k.md <;> rw [hq] at this <;> exact this
end
end Go.Proofs.Ytcohhfndaogikaa
