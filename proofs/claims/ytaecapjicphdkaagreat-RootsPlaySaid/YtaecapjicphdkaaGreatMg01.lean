/- Facts on the program's head, by its first words alone (each is true of this program, with no condition). -/
import Derived.Test.YtaecapjicphdkaaGreatRows
import Derived.JoinedOf
import Derived.KernelRfl
import Derived.Test.YtaecapjicphdkaaGreatProg
import Derived.WalkKit
import Derived.WalkLawsBesides
import Derived.WalkSpells
import Derived.Handy
import Derived.Deep.QuietTactic
import Derived.BigQuiet
import Derived.Lib.Hide
namespace Go.Proofs.YtaecapjicphdkaaGreat
set_option linter.unusedVariables false
set_option linter.unusedSimpArgs false
open Go

theorem wordsSigns_word : ∀ (l r : List Char), (∀ c ∈ l, c ≠ ' ') → wordsSigns (l ++ ' ' :: r) = l :: wordsSigns r
  | [], r, _ => by rw [List.nil_append, wordsSigns]
  | c :: l, r, h => by
    have hc : c ≠ ' ' := h c (List.mem_cons_self ..)
    rw [List.cons_append, wordsSigns.eq_3 _ _ (fun e => hc e), wordsSigns_word l r (fun x hx => h x (List.mem_cons_of_mem _ hx))]
def headCheck (l : List Char) : Bool := l.take 8 == "harness ".toList && isSumSigns ((l.drop 8).take 64) && (l.drop 72).take 5 == " cut ".toList
theorem sum_nospace {s : List Char} (h : isSumSigns s = true) : ∀ c ∈ s, c ≠ ' ' := by
  intro c hc e
  unfold isSumSigns at h
  simp only [Bool.and_eq_true, List.all_eq_true] at h
  have := h.2 c hc
  rw [e] at this
  revert this; decide
theorem head_of_check {l : List Char} (h : headCheck l = true) : ∃ r, behindMainWord (wordsSigns l) = "cut".toList :: r := by
  unfold headCheck at h
  simp only [Bool.and_eq_true, beq_iff_eq] at h
  obtain ⟨⟨h1, h2⟩, h3⟩ := h
  have e : l = "harness".toList ++ ' ' :: ((l.drop 8).take 64 ++ ' ' :: ("cut".toList ++ ' ' :: l.drop 77)) := by
    conv => lhs; rw [← List.take_append_drop 8 l, h1, ← List.take_append_drop 64 (l.drop 8), List.drop_drop, ← List.take_append_drop 5 (l.drop (8 + 64)), List.drop_drop, h3]
    simp
  rw [e, wordsSigns_word _ _ (by decide), wordsSigns_word _ _ (sum_nospace h2), wordsSigns_word _ _ (by decide)]
  refine ⟨wordsSigns (l.drop 77), ?_⟩
  unfold behindMainWord
  dsimp only
  rw [if_pos (by rw [h2]; decide)]
theorem lifts_none (r : List (List Char)) : stripLifts liftWords ("cut".toList :: r) = ([], "cut".toList :: r) := by
  simp [stripLifts, liftWords]
theorem lifted_of {P : Program} (h : ∃ r, behindMainWord (wordsSigns P.initOrder.toList) = "cut".toList :: r) : P.liftsFinal = false := by
  obtain ⟨r, h⟩ := h
  unfold Program.liftsFinal Program.headLifts
  rw [h, lifts_none]
  simp
theorem make_of {P : Program} (h : ∃ r, behindMainWord (wordsSigns P.initOrder.toList) = "cut".toList :: r) : P.make = some .cut := by
  obtain ⟨r, h⟩ := h
  unfold Program.make
  rw [h]
  simp
theorem mayEnter_of {P : Program} (h : ∃ r, behindMainWord (wordsSigns P.initOrder.toList) = "cut".toList :: r) (h1 : P.laysLater = false) (h2 : P.bearsReflect = false) (h3 : P.doorFits [] = true) : P.mayEnter = true := by
  obtain ⟨r, h⟩ := h
  unfold Program.mayEnter
  rw [h]
  dsimp only
  rw [lifts_none, h1, h2, h3]
  simp
set_option maxRecDepth 1000000 in
theorem head_list : ∃ l, Tryz.prog.initOrder = String.ofList l ∧ headCheck l = true := ⟨_, rfl, by kernel_rfl⟩
theorem head_ok : headCheck Tryz.prog.initOrder.toList = true := by
  obtain ⟨l, h, hl⟩ := head_list
  rw [h, String.toList_ofList]; exact hl
theorem mayEnter_ok : Tryz.prog.mayEnter = true := mayEnter_of (head_of_check head_ok) (by kernel_rfl) (by kernel_rfl) (by kernel_rfl)
theorem lifted_ok : Tryz.prog.liftsFinal = false := lifted_of (head_of_check head_ok)
theorem make_ok : Tryz.prog.make = some .cut := make_of (head_of_check head_ok)
theorem mayEnter_at : Program.mayEnter Tryz.pinned.checked.prog = true := mayEnter_ok
theorem lifted_at : Program.liftsFinal Tryz.pinned.checked.prog = false := lifted_ok
theorem make_at : Program.make Tryz.pinned.checked.prog = some .cut := make_ok
end Go.Proofs.YtaecapjicphdkaaGreat

/- Small general lemmas on worlds and calls, for the walks. -/
namespace Go.Proofs.YtaecapjicphdkaaGreat
set_option linter.unusedVariables false
set_option linter.unusedSimpArgs false
open Go Go.RowKit

theorem below_drewN (B : Nat) (w : World) (k : Nat) : Below B w (w.drewN k) := ⟨rfl, rfl, rfl, Nat.le_refl _, fun _ _ => rfl⟩
theorem calls_of_drewN {f : FuncId} {args : Array Value} {w : World} (h : Calls Tryz.prog f args w fun e w' => e = .returned (.bool true) ∧ ∃ k, w' = w.drewN k) :
    Calls Tryz.prog f args w fun e w' => e = .returned (.bool true) ∧ Below w.heap.size w w' :=
  h.mono fun e w' ⟨he, k, hk⟩ => ⟨he, by rw [hk]; exact below_drewN _ _ _⟩
theorem wf_u64 {a : Int} (h : (Lit.int .u64 a).wf = true) : 0 ≤ a ∧ a < 18446744073709551616 := by
  simp [Lit.wf, IntKind.min, IntKind.max, IntKind.signed, IntKind.bits] at h; omega
theorem wf_i64 {a : Int} (h : (Lit.int .i64 a).wf = true) : -9223372036854775808 ≤ a ∧ a < 9223372036854775808 := by
  simp [Lit.wf, IntKind.min, IntKind.max, IntKind.signed, IntKind.bits] at h; omega

end Go.Proofs.YtaecapjicphdkaaGreat

/- 'Keeps w w'': whatever lay in memory lies there as it did; new blocks may be there. -/
namespace Go.Proofs.YtaecapjicphdkaaGreat
set_option linter.unusedVariables false
set_option linter.unusedSimpArgs false
open Go Go.RowKit

def Keeps (w w' : World) : Prop := Below w.heap.size w w'
theorem Keeps.refl (w : World) : Keeps w w := Below.refl _ _
theorem Keeps.size {w w' : World} (h : Keeps w w') : w.heap.size ≤ w'.heap.size := Below.size h
theorem Keeps.block {w w' : World} (h : Keeps w w') {k : Nat} (hk : k < w.heap.size) : w'.heap[k]? = w.heap[k]? := Below.block h k hk
theorem Keeps.trans {a b c : World} (h : Keeps a b) (k : Keeps b c) : Keeps a c := Below.trans h (Below.mono k h.size)
theorem Keeps.drewN {a b : World} (h : Keeps a b) (n : Nat) : Keeps a (b.drewN n) := h.trans (below_drewN _ _ _)
theorem Keeps.drew {a b : World} (h : Keeps a b) : Keeps a b.drew := Below.drew h
theorem Keeps.alloc {a b : World} (h : Keeps a b) (o : Obj) : Keeps a (b.alloc o) := Below.alloc h h.size o
theorem Keeps.setCell {a b : World} (h : Keeps a b) {p : Addr} (hp : a.heap.size ≤ p.block) (u : Value) : Keeps a (b.setCell p u) := Below.setCell h hp u
theorem Keeps.cell {w w' : World} (h : Keeps w w') {b o : Nat} (hb : b < w.heap.size) : w'.cell? ⟨b, o, none⟩ = w.cell? ⟨b, o, none⟩ := Below.cell (p := ⟨b, o, none⟩) h hb
theorem Keeps.frozen {w w' : World} (h : Keeps w w') {b o : Nat} (hb : b < w.heap.size) : w'.frozen? ⟨b, o, none⟩ = w.frozen? ⟨b, o, none⟩ := Below.frozen (p := ⟨b, o, none⟩) h hb
/-- Blocks that lie in a memory of so many blocks. -/
def Live (L : List Nat) (s : Nat) : Prop := ∀ x ∈ L, x < s ∧ x ≤ s
theorem Live.nil (s : Nat) : Live [] s := fun x h => by cases h
theorem Live.step0 {L : List Nat} {s s' : Nat} (h : Live L s) (hs : s ≤ s') : Live L s' := fun x hx => by have := (h x hx).1; omega
theorem Live.step1 {L : List Nat} {s s' : Nat} (h : Live L s) (hs : s + 1 ≤ s') : Live (s :: L) s' := fun x hx => by
  rcases List.mem_cons.1 hx with rfl | hx
  · omega
  · have := (h x hx).1; omega
theorem Live.step2 {L : List Nat} {s s' : Nat} (h : Live L s) (hs : s + 1 + 1 ≤ s') : Live ((s + 1) :: s :: L) s' := (h.step1 (s' := s + 1) (Nat.le_refl _)).step1 hs
theorem Live.step3 {L : List Nat} {s s' : Nat} (h : Live L s) (hs : s + 1 + 1 + 1 ≤ s') : Live ((s + 1 + 1) :: (s + 1) :: s :: L) s' := (h.step2 (s' := s + 1 + 1) (Nat.le_refl _)).step1 hs
theorem Live.step4 {L : List Nat} {s s' : Nat} (h : Live L s) (hs : s + 1 + 1 + 1 + 1 ≤ s') : Live ((s + 1 + 1 + 1) :: (s + 1 + 1) :: (s + 1) :: s :: L) s' := (h.step3 (s' := s + 1 + 1 + 1) (Nat.le_refl _)).step1 hs
theorem Keeps.of_drewN {w : World} (k : Nat) : Keeps w (w.drewN k) := below_drewN _ _ _

/-- A world that keeps what lay in w. -/
structure After (w : World) where
  world : World
  keeps : Keeps w world
instance (w : World) : Nonempty (After w) := ⟨⟨w, Keeps.refl w⟩⟩
@[go_sem] theorem After.cell {w : World} (u : After w) {b o : Nat} (h : b < w.heap.size) : u.world.cell? ⟨b, o, none⟩ = w.cell? ⟨b, o, none⟩ := u.keeps.cell h
@[go_sem] theorem After.frozen {w : World} (u : After w) {b o : Nat} (h : b < w.heap.size) : u.world.frozen? ⟨b, o, none⟩ = w.frozen? ⟨b, o, none⟩ := u.keeps.frozen h
/-- A region that draws its order, whose operations read and whose callees keep what lies in memory: one walk, in the text's order. -/
theorem wp_region_after_lit {P : Program} {id : Nat} {Q : Exit → Act → World → Prop} {a : Act} {w : World} {l : List Oper} (hm : P.follows .mixedOrders = true) (hB : Region.lexB .any l.toArray = true)
    (h : wpQuiet P l.toArray (fun w' => ∃ u : After w, w' = u.world) (fun a' => ∀ w', (∃ u : After w, w' = u.world) → Q .normal a' w') l a) : (Code.region id l.toArray true).wp P Q a w :=
  wp_region_quiet (C := fun w' => ∃ u : After w, w' = u.world) hm hB ⟨⟨_, below_drewN _ _ 1⟩, rfl⟩ (by simpa using h)
theorem calls_after {P : Program} {f : FuncId} {args : Array Value} {w : World} {u : After w} {v : Value}
    (h : Calls P f args u.world fun e w' => e = .returned v ∧ Keeps u.world w') : Calls P f args u.world fun e w'' => e = .returned v ∧ ∃ u' : After w, w'' = u'.world :=
  h.mono fun _ w' ⟨he, hw⟩ => ⟨he, ⟨w', u.keeps.trans hw⟩, rfl⟩
theorem calls_after_drewN {P : Program} {f : FuncId} {args : Array Value} {w : World} {u : After w} {v : Value}
    (h : Calls P f args u.world fun e w' => e = .returned v ∧ ∃ k, w' = u.world.drewN k) : Calls P f args u.world fun e w'' => e = .returned v ∧ ∃ u' : After w, w'' = u'.world :=
  calls_after (h.mono fun _ w' ⟨he, k, hw⟩ => ⟨he, by rw [hw]; exact Keeps.of_drewN _⟩)
theorem calls_after_same {P : Program} {f : FuncId} {args : Array Value} {w : World} {u : After w} {v : Value}
    (h : Calls P f args u.world fun e w' => e = .returned v ∧ u.world = w') : Calls P f args u.world fun e w'' => e = .returned v ∧ ∃ u' : After w, w'' = u'.world :=
  calls_after (h.mono fun _ w' ⟨he, hw⟩ => ⟨he, by rw [← hw]; exact Keeps.refl _⟩)

end Go.Proofs.YtaecapjicphdkaaGreat

/- A memory told block by block: what some named blocks hold, all else that was there as it was. -/
namespace Go.Proofs.YtaecapjicphdkaaGreat
set_option linter.unusedVariables false
set_option linter.unusedSimpArgs false
open Go Go.RowKit
set_option maxRecDepth 100000

/-- A block, its cells, their type. -/
abbrev Ent := Nat × Array Value × TypeId

/-- Of the old blocks those of S alone may have turned. -/
structure Upd (S : List Nat) (w w' : World) : Prop where
  os : w'.os = w.os
  tape : w'.tape = w.tape
  output : w'.output = w.output
  size : w.heap.size ≤ w'.heap.size
  block : ∀ k, k < w.heap.size → k ∉ S → w'.heap[k]? = w.heap[k]?

theorem Upd.refl (S : List Nat) (w : World) : Upd S w w := ⟨rfl, rfl, rfl, Nat.le_refl _, fun _ _ _ => rfl⟩
theorem Upd.trans {S : List Nat} {a b c : World} (h : Upd S a b) (k : Upd S b c) : Upd S a c :=
  ⟨k.os.trans h.os, k.tape.trans h.tape, k.output.trans h.output, Nat.le_trans h.size k.size, fun i hi hn => (k.block i (Nat.lt_of_lt_of_le hi h.size) hn).trans (h.block i hi hn)⟩
theorem Upd.mono {S T : List Nat} {a b : World} (h : Upd S a b) (hs : ∀ x ∈ S, x ∈ T) : Upd T a b :=
  ⟨h.os, h.tape, h.output, h.size, fun i hi hn => h.block i hi (fun hx => hn (hs i hx))⟩
theorem Upd.of_keeps {S : List Nat} {a b : World} (h : Keeps a b) : Upd S a b := ⟨Below.os h, Below.tape h, Below.output h, Keeps.size h, fun i hi _ => Keeps.block h hi⟩
theorem Upd.keeps {a b : World} (h : Upd [] a b) : Keeps a b := ⟨h.os, h.tape, h.output, h.size, fun i hi => h.block i hi (by simp)⟩
theorem Upd.drewN {S : List Nat} {a b : World} (h : Upd S a b) (n : Nat) : Upd S a (b.drewN n) := ⟨h.os, h.tape, h.output, h.size, h.block⟩
theorem Upd.drew {S : List Nat} {a b : World} (h : Upd S a b) : Upd S a b.drew := ⟨h.os, h.tape, h.output, h.size, h.block⟩
theorem Upd.alloc {S : List Nat} {a b : World} (h : Upd S a b) (o : Obj) : Upd S a (b.alloc o) :=
  h.trans (Upd.of_keeps ((Keeps.refl b).alloc o))
theorem Keeps.upd {T : List Nat} {a b c : World} (h : Keeps a b) (k : Upd T b c) (hT : ∀ x ∈ T, a.heap.size ≤ x) : Keeps a c :=
  Upd.keeps ⟨k.os.trans h.os, k.tape.trans h.tape, k.output.trans h.output, Nat.le_trans h.size k.size, fun i hi _ => (k.block i (Nat.lt_of_lt_of_le hi h.size) (fun hx => by have := hT i hx; omega)).trans (h.block hi)⟩
theorem Keeps.upd2 {g b : Nat} {a w c : World} (h : Keeps a w) (k : Upd [g, b] w c) (h1 : a.heap.size ≤ g) (h2 : a.heap.size ≤ b) : Keeps a c :=
  h.upd k (by simp; exact ⟨h1, h2⟩)
theorem heap_setCell_ne (w : World) (a : Addr) (u : Value) (k : Nat) (h : k ≠ a.block) : (w.setCell a u).heap[k]? = w.heap[k]? := Below.heap_setCell w a u k h
theorem Upd.setCell {S : List Nat} {a b : World} (h : Upd S a b) {p : Addr} (hp : p.block ∈ S ∨ a.heap.size ≤ p.block) (u : Value) : Upd S a (b.setCell p u) :=
  ⟨h.os, h.tape, h.output, by simpa using h.size, fun k hk hn => (heap_setCell_ne _ _ _ _ (fun e => by
    rcases hp with hp | hp
    · rw [e] at hn; exact hn hp
    · omega)).trans (h.block k hk hn)⟩

/-- What block g holds. -/
def Has (w : World) (g : Nat) (cs : Array Value) (t : TypeId) : Prop := w.heap[g]? = some (.cells cs t (0, 0))
theorem Has.lt {w : World} {g : Nat} {cs : Array Value} {t : TypeId} (h : Has w g cs t) : g < w.heap.size := (Array.getElem?_eq_some_iff.1 h).1
theorem Has.cell {w : World} {g : Nat} {cs : Array Value} {t : TypeId} (h : Has w g cs t) (o : Nat) : w.cell? ⟨g, o, none⟩ = cs[o]? := by
  unfold Has at h; simp [World.cell?, h]
theorem Has.cellv {w : World} {g : Nat} {cs : Array Value} {t : TypeId} {o : Nat} {v : Value} (h : Has w g cs t) (e : cs[o]? = some v) : w.cell? ⟨g, o, none⟩ = some v := (h.cell o).trans e
theorem Has.frozen {w : World} {g : Nat} {cs : Array Value} {t : TypeId} (h : Has w g cs t) (o : Nat) : w.frozen? ⟨g, o, none⟩ = false := by
  unfold Has at h; simp [World.frozen?, h]
theorem Has.congr {w : World} {g : Nat} {cs ds : Array Value} {t : TypeId} (h : Has w g cs t) (e : cs = ds) : Has w g ds t := e ▸ h
theorem Has.ne {w : World} {g b : Nat} {cs ds : Array Value} {t u : TypeId} (h : Has w g cs t) (k : Has w b ds u) (hn : t ≠ u) : g ≠ b := by
  rintro rfl; unfold Has at h k; rw [h] at k; simp at k; exact hn k.2
theorem Has.upd {S : List Nat} {w w' : World} {g : Nat} {cs : Array Value} {t : TypeId} (h : Has w g cs t) (hu : Upd S w w') (hn : g ∉ S) : Has w' g cs t := (hu.block g h.lt hn).trans h
theorem Has.keeps {w w' : World} {g : Nat} {cs : Array Value} {t : TypeId} (h : Has w g cs t) (hu : Keeps w w') : Has w' g cs t := (hu.block h.lt).trans h
theorem Has.drewN {w : World} {g : Nat} {cs : Array Value} {t : TypeId} (h : Has w g cs t) (n : Nat) : Has (w.drewN n) g cs t := h
theorem Has.drew {w : World} {g : Nat} {cs : Array Value} {t : TypeId} (h : Has w g cs t) : Has w.drew g cs t := h
theorem Has.alloc {w : World} {g : Nat} {cs : Array Value} {t : TypeId} (h : Has w g cs t) (o : Obj) : Has (w.alloc o) g cs t := h.keeps ((Keeps.refl w).alloc o)
theorem Has.new (w : World) (cs : Array Value) (t : TypeId) : Has (w.alloc (.cells cs t)) w.heap.size cs t := heap_alloc_new w _
theorem Has.new1 (w : World) (o : Obj) (cs : Array Value) (t : TypeId) : Has ((w.alloc o).alloc (.cells cs t)) (w.heap.size + 1) cs t := by
  have h := Has.new (w.alloc o) cs t
  rwa [World.size_alloc] at h
theorem Has.new2 (w : World) (o p : Obj) (cs : Array Value) (t : TypeId) : Has (((w.alloc o).alloc p).alloc (.cells cs t)) (w.heap.size + 1 + 1) cs t := by
  have h := Has.new ((w.alloc o).alloc p) cs t
  rwa [World.size_alloc, World.size_alloc] at h
theorem Has.newAt {w : World} {g : Nat} {cs : Array Value} {t : TypeId} (h : w.heap.size = g) : Has (w.alloc (.cells cs t)) g cs t := h ▸ Has.new w cs t
theorem Has.far {w : World} {g : Nat} {cs : Array Value} {t : TypeId} (h : Has w g cs t) {p : Addr} (hn : g ≠ p.block) (u : Value) : Has (w.setCell p u) g cs t := (heap_setCell_ne _ _ _ _ hn).trans h
theorem Has.set {w : World} {g : Nat} {cs : Array Value} {t : TypeId} (h : Has w g cs t) (o : Nat) (u : Value) : Has (w.setCell ⟨g, o, none⟩ u) g (cs.setIfInBounds o u) t := by
  unfold Has at *; simp [World.setCell, Array.getElem?_modify, h]

/-- Some blocks told; below B all is as it was in w0. -/
structure Heap (B : Nat) (w0 : World) (L : List Ent) (w : World) : Prop where
  below : Below B w0 w
  old : B ≤ w0.heap.size
  nodup : (L.map (·.1)).Nodup
  ge : ∀ e ∈ L, B ≤ e.1
  has : ∀ e ∈ L, Has w e.1 e.2.1 e.2.2

section
variable {B : Nat} {w0 w w' : World} {L : List Ent}
theorem Heap.start (w : World) : Heap w.heap.size w [] w := ⟨Below.refl _ _, Nat.le_refl _, by simp, by simp, by simp⟩
theorem Heap.ofKeeps (h : Heap B w0 L w) (k : Keeps w w') : Heap B w0 L w' :=
  ⟨Below.trans h.below (Below.mono k (Nat.le_trans h.old h.below.size)), h.old, h.nodup, h.ge, fun e he => (h.has e he).keeps k⟩
theorem Heap.drewN (h : Heap B w0 L w) (n : Nat) : Heap B w0 L (w.drewN n) := h.ofKeeps (Keeps.of_drewN n)
theorem Heap.drew (h : Heap B w0 L w) : Heap B w0 L w.drew := h.ofKeeps (Keeps.refl w).drew
theorem Heap.pass (h : Heap B w0 L w) (o : Obj) : Heap B w0 L (w.alloc o) := h.ofKeeps ((Keeps.refl w).alloc o)
theorem Heap.size (h : Heap B w0 L w) : B ≤ w.heap.size := Nat.le_trans h.old h.below.size
theorem Heap.alloc (h : Heap B w0 L w) (cs : Array Value) (t : TypeId) : Heap B w0 ((w.heap.size, cs, t) :: L) (w.alloc (.cells cs t)) := by
  have hp := h.pass (.cells cs t)
  refine ⟨hp.below, hp.old, ?_, ?_, ?_⟩
  · rw [List.map_cons, List.nodup_cons]
    refine ⟨fun hm => ?_, h.nodup⟩
    obtain ⟨e, he, he2⟩ := List.mem_map.1 hm
    have := (h.has e he).lt
    simp at he2
    omega
  · intro e he
    rcases List.mem_cons.1 he with rfl | he
    · exact h.size
    · exact h.ge e he
  · intro e he
    rcases List.mem_cons.1 he with rfl | he
    · exact Has.new w cs t
    · exact hp.has e he

/-- A block that was made, in a world that is known by what it keeps. -/
theorem Heap.new (h : Heap B w0 L w) (k : Keeps w w') {g : Nat} {cs : Array Value} {t : TypeId} (hg : Has w' g cs t) (hn : w.heap.size ≤ g) : Heap B w0 ((g, cs, t) :: L) w' := by
  have hp := h.ofKeeps k
  refine ⟨hp.below, hp.old, ?_, ?_, ?_⟩
  · rw [List.map_cons, List.nodup_cons]
    refine ⟨fun hm => ?_, h.nodup⟩
    obtain ⟨e, he, he2⟩ := List.mem_map.1 hm
    have := (h.has e he).lt
    simp at he2
    omega
  · intro e he
    rcases List.mem_cons.1 he with rfl | he
    · exact Nat.le_trans h.size hn
    · exact h.ge e he
  · intro e he
    rcases List.mem_cons.1 he with rfl | he
    · exact hg
    · exact hp.has e he

/-- Block g holds other cells. -/
def put1 (g : Nat) (cs : Array Value) : List Ent → List Ent
  | [] => []
  | e :: L => if e.1 = g then (e.1, cs, e.2.2) :: L else e :: put1 g cs L
theorem put1_fst (g : Nat) (cs : Array Value) (L : List Ent) : (put1 g cs L).map (·.1) = L.map (·.1) := by
  induction L with
  | nil => rfl
  | cons e L ih => unfold put1; split <;> simp_all
theorem mem_put1 {g : Nat} {cs : Array Value} {L : List Ent} (hn : (L.map (·.1)).Nodup) {e : Ent} (he : e ∈ put1 g cs L) : (e.1 ≠ g ∧ e ∈ L) ∨ (e.1 = g ∧ e.2.1 = cs ∧ ∃ ds, (g, ds, e.2.2) ∈ L) := by
  induction L with
  | nil => cases he
  | cons d L ih =>
    rw [List.map_cons, List.nodup_cons] at hn
    unfold put1 at he
    split at he
    · rename_i hd
      rcases List.mem_cons.1 he with rfl | he
      · exact .inr ⟨hd, rfl, d.2.1, by rw [← hd]; exact List.mem_cons_self ..⟩
      · refine .inl ⟨fun hg => hn.1 ?_, List.mem_cons_of_mem _ he⟩
        rw [hd, ← hg]; exact List.mem_map.2 ⟨e, he, rfl⟩
    · rename_i hd
      rcases List.mem_cons.1 he with rfl | he
      · exact .inl ⟨hd, List.mem_cons_self ..⟩
      · rcases ih hn.2 he with h | ⟨h1, h2, ds, h3⟩
        · exact .inl ⟨h.1, List.mem_cons_of_mem _ h.2⟩
        · exact .inr ⟨h1, h2, ds, List.mem_cons_of_mem _ h3⟩
theorem Heap.unique (h : Heap B w0 L w) {g : Nat} {cs ds : Array Value} {t u : TypeId} (h1 : Has w g cs t) (h2 : (g, ds, u) ∈ L) : u = t := by
  have := h.has _ h2
  unfold Has at *
  rw [h1] at this
  simp at this
  exact this.2.symm
/-- Behind a call that turns block g alone. -/
theorem Heap.upd1 (h : Heap B w0 L w) {g : Nat} {cs : Array Value} {t : TypeId} (hu : Upd [g] w w') (hB : B ≤ g) (hg : Has w' g cs t) (ht : ∀ ds u, (g, ds, u) ∈ L → u = t) : Heap B w0 (put1 g cs L) w' := by
  refine ⟨⟨hu.os.trans h.below.os, hu.tape.trans h.below.tape, hu.output.trans h.below.output, Nat.le_trans h.below.size hu.size, fun k hk => ?_⟩, h.old, by rw [put1_fst]; exact h.nodup, ?_, ?_⟩
  · rw [hu.block k (by have := h.size; omega) (by simp; omega)]
    exact h.below.block k hk
  · intro e he
    rcases mem_put1 h.nodup he with ⟨_, h2⟩ | ⟨h1, _, ds, h3⟩
    · exact h.ge e h2
    · rw [h1]; exact hB
  · intro e he
    rcases mem_put1 h.nodup he with ⟨h1, h2⟩ | ⟨h1, h2, ds, h3⟩
    · exact (h.has e h2).upd hu (by simpa using h1)
    · rw [h1, h2, ht ds _ h3]; exact hg
theorem Heap.upd2 (h : Heap B w0 L w) {g b : Nat} {cs ds : Array Value} {t u : TypeId} (hu : Upd [g, b] w w') (hB : B ≤ g) (hB2 : B ≤ b) (hgb : g ≠ b) (hg : Has w' g cs t) (hb : Has w' b ds u) (ht : ∀ x y, (g, x, y) ∈ L → y = t) (ht2 : ∀ x y, (b, x, y) ∈ L → y = u) : Heap B w0 (put1 g cs (put1 b ds L)) w' := by
  refine ⟨⟨hu.os.trans h.below.os, hu.tape.trans h.below.tape, hu.output.trans h.below.output, Nat.le_trans h.below.size hu.size, fun k hk => ?_⟩, h.old, by rw [put1_fst, put1_fst]; exact h.nodup, ?_, ?_⟩
  · rw [hu.block k (by have := h.size; omega) (by simp; omega)]
    exact h.below.block k hk
  · intro e he
    rcases mem_put1 (by rw [put1_fst]; exact h.nodup) he with ⟨_, h2⟩ | ⟨h1, _⟩
    · rcases mem_put1 h.nodup h2 with ⟨_, h2⟩ | ⟨h1, _⟩
      · exact h.ge e h2
      · rw [h1]; exact hB2
    · rw [h1]; exact hB
  · intro e he
    rcases mem_put1 (by rw [put1_fst]; exact h.nodup) he with ⟨h0, h2⟩ | ⟨h1, h2, x, h3⟩
    · rcases mem_put1 h.nodup h2 with ⟨h1, h2⟩ | ⟨h1, h2, x, h3⟩
      · exact (h.has e h2).upd hu (by simp; exact ⟨h0, h1⟩)
      · rw [h1, h2, ht2 x _ h3]; exact hb
    · rcases mem_put1 h.nodup h3 with ⟨_, h4⟩ | ⟨h4, _⟩
      · rw [h1, h2, ht _ _ h4]; exact hg
      · exact absurd h4 hgb
/-- One's own store. -/
theorem Heap.set (h : Heap B w0 L w) {g : Nat} {cs : Array Value} {t : TypeId} (hm : (g, cs, t) ∈ L) (o : Nat) (v : Value) : Heap B w0 (put1 g (cs.setIfInBounds o v) L) (w.setCell ⟨g, o, none⟩ v) :=
  h.upd1 ((Upd.refl [g] w).setCell (.inl (by simp)) v) (h.ge _ hm) ((h.has _ hm).set o v) (fun ds u hd => h.unique (h.has _ hm) hd)
theorem Heap.ne (h : Heap B w0 L w) {g b : Nat} {cs ds : Array Value} {t u : TypeId} (hg : (g, cs, t) ∈ L) (hb : (b, ds, u) ∈ L) (hn : t ≠ u) : g ≠ b := (h.has _ hg).ne (h.has _ hb) hn
theorem Heap.types (h : Heap B w0 L w) {g : Nat} {cs : Array Value} {t : TypeId} (hm : (g, cs, t) ∈ L) : ∀ x y, (g, x, y) ∈ L → y = t := fun _ _ hd => h.unique (h.has _ hm) hd
/-- A call, with the memory told. -/
theorem calls_heap {P : Program} {f : FuncId} {args : Array Value} {Q : Ending → World → Prop} (h : Heap B w0 L w) (k : Heap B w0 L w → Calls P f args w Q) : Calls P f args w Q := k h
end

/-- The cells of a block, one by one. -/
def cellsAt (w : World) (g : Nat) : Nat → List Value → Prop
  | _, [] => True
  | k, v :: l => w.cell? ⟨g, k, none⟩ = some v ∧ cellsAt w g (k + 1) l
theorem cellsAt_of {w : World} {g : Nat} {cs : Array Value} {t : TypeId} (h : Has w g cs t) : ∀ (k : Nat) (l : List Value), (∀ j, l[j]? = cs[k + j]?) → cellsAt w g k l
  | _, [], _ => trivial
  | k, v :: l, hl => ⟨by rw [h.cell]; have := hl 0; simpa using this.symm, cellsAt_of h (k + 1) l (fun j => by have := hl (j + 1); simp at this; rw [this]; congr 1; omega)⟩
def blockFacts (w : World) (g : Nat) (cs : Array Value) : Prop := cellsAt w g 0 cs.toList ∧ (∀ o, w.frozen? ⟨g, o, none⟩ = false) ∧ g < w.heap.size ∧ g ≤ w.heap.size
theorem Has.facts {w : World} {g : Nat} {cs : Array Value} {t : TypeId} (h : Has w g cs t) : blockFacts w g cs :=
  ⟨cellsAt_of h 0 _ (fun j => by simp), h.frozen, h.lt, Nat.le_of_lt h.lt⟩
def listFacts (w : World) : List Ent → Prop
  | [] => True
  | e :: L => blockFacts w e.1 e.2.1 ∧ listFacts w L
theorem Heap.facts {B : Nat} {w0 w : World} : ∀ {L : List Ent}, Heap B w0 L w → listFacts w L
  | [], _ => trivial
  | e :: L, h => ⟨(h.has e (List.mem_cons_self ..)).facts, Heap.facts (L := L) ⟨h.below, h.old, (List.nodup_cons.1 (by simpa using h.nodup)).2, fun d hd => h.ge d (List.mem_cons_of_mem _ hd), fun d hd => h.has d (List.mem_cons_of_mem _ hd)⟩⟩
/-- No two blocks are one. -/
def nesOf (g : Nat) : List Nat → Prop
  | [] => True
  | b :: l => (¬ g = b ∧ ¬ b = g) ∧ nesOf g l
def nes : List Nat → Prop
  | [] => True
  | b :: l => nesOf b l ∧ nes l
theorem nesOf_of {g : Nat} : ∀ {l : List Nat}, g ∉ l → nesOf g l
  | [], _ => trivial
  | b :: l, h => ⟨⟨fun e => h (by rw [e]; exact List.mem_cons_self ..), fun e => h (by rw [e]; exact List.mem_cons_self ..)⟩, nesOf_of (fun hm => h (List.mem_cons_of_mem _ hm))⟩
theorem nes_of : ∀ {l : List Nat}, l.Nodup → nes l
  | [], _ => trivial
  | b :: l, h => ⟨nesOf_of (List.nodup_cons.1 h).1, nes_of (List.nodup_cons.1 h).2⟩
theorem Heap.nes {B : Nat} {w0 w : World} {L : List Ent} (h : Heap B w0 L w) : Go.Proofs.YtaecapjicphdkaaGreat.nes (L.map (·.1)) := nes_of h.nodup

end Go.Proofs.YtaecapjicphdkaaGreat
