/- Machines of package run: their Step, Done, Count, Go, whatever comes next. -/
import Derived.Test.YtaecapjicphdkaaGreatHeap
import Derived.Laws.EntriesVeiled
namespace Go.Proofs.YtaecapjicphdkaaGreat
set_option linter.unusedVariables false
set_option linter.unusedSimpArgs false
open Go Go.RowKit
set_option maxRecDepth 100000

@[go_sem] theorem func_nil (f : Fn) (xs ys : Array Value) (w : World) : Sem.run Tryz.prog (binOp .eql 1 (.func f xs ys) .nilFunc) w = .ok (.bool false) w := by rfl
@[go_sem] theorem nil_nil (w : World) : Sem.run Tryz.prog (binOp .eql 1 .nilFunc .nilFunc) w = .ok (.bool true) w := by rfl
/-- A bound method. -/
@[reducible] def bound (f : Nat) (g : Nat) : Value := .func (.func f) #[.pointer (some ⟨g, 0, none⟩)] #[]
/-- What comes next. -/
def nxt (o : Option Nat) (g : Nat) : Value := match o with
  | none => .nilFunc
  | some f => bound f g
@[simp] theorem nxt_none (g : Nat) : nxt none g = .nilFunc := rfl
@[simp] theorem nxt_some (f g : Nat) : nxt (some f) g = bound f g := rfl
/-- A machine's first cells: what comes next, how many accesses there were. -/
abbrev mach (nx : Value) (c : Int) (rest : List Value) : Array Value := (nx :: .nilFunc :: .nilFunc :: .nilFunc :: .int .i64 c :: rest).toArray
/-- A function of the program that has a body. -/
def Entr (f : Nat) : Prop := ∀ (args : Array Value) (w : World), (callFunc f args).run Tryz.prog w = .ok (.enter f args) w
section
variable {f g : Nat} {c : Int} {rest : List Value} {T : TypeId} {w : World} {Q : World → Prop} {o : Option Nat}

theorem mstep_c (hf : Entr f) (hg : Has w g (mach (bound f g) c rest) T) (h0 : 0 ≤ c) (h1 : c < 1000000000)
    (h : ∀ w1, Upd [g] w w1 → Has w1 g (mach .nilFunc (c + 1) rest) T → Calls Tryz.prog f #[.pointer (some ⟨g, 0, none⟩)] w1 fun e w' => e = .returned (.tuple #[]) ∧ Q w') :
    Calls Tryz.prog 57 #[.pointer (some ⟨g, 0, none⟩)] w fun e w' => e = .returned (.bool true) ∧ Q w' := by
  have F0 := hg.cell 0
  have F4 := hg.cell 4
  have Fz := hg.frozen
  simp only [mach, List.getElem?_toArray, List.getElem?_cons_zero, List.getElem?_cons_succ] at F0 F4
  have hf' : ∀ (args : Array Value) (w : World), (callFunc f args).run Tryz.prog w = .ok (.enter f args) w := hf
  go_enter Tryz.func57, Tryz.ntmps57
  go_wp2
  refine (h _ (by (repeat (first | (with_reducible exact Upd.refl _ _) | (with_reducible assumption) | (with_reducible refine Upd.setCell ?_ (by first | (left; simp; done) | (right; go_size)) _) | (with_reducible refine Upd.alloc ?_ _) | (with_reducible refine Upd.drewN ?_ _) | (with_reducible refine Upd.drew ?_)))) (by (apply Has.congr; (focus ((repeat (first | (with_reducible assumption) | (with_reducible exact Has.new _ _ _) | (with_reducible exact Has.new1 _ _ _ _) | (with_reducible exact Has.new2 _ _ _ _ _) | (with_reducible refine Has.newAt ?_; (simp; done)) | (with_reducible apply Has.set) | (with_reducible apply Has.far; (case hn => first | assumption | (simp; done) | (intro e_; simp at e_; omega))) | (with_reducible apply Has.alloc) | (with_reducible apply Has.drewN) | (with_reducible apply Has.drew) | (with_reducible refine Has.keeps ?_ (by with_reducible assumption)))))); (first | rfl | (simp; done))))).mono ?_
  rintro e w' ⟨rfl, hq⟩
  go_wp2
  go_ret
  exact ⟨rfl, hq⟩
theorem mstep_nil (hg : Has w g (mach .nilFunc c rest) T) :
    Calls Tryz.prog 57 #[.pointer (some ⟨g, 0, none⟩)] w fun e w' => e = .returned (.bool false) ∧ w = w' := by
  have F0 := hg.cell 0
  simp only [mach, List.getElem?_toArray, List.getElem?_cons_zero, List.getElem?_cons_succ] at F0
  go_enter Tryz.func57, Tryz.ntmps57
  go_wp2
  go_ret
  exact ⟨rfl, rfl⟩
theorem mdone_c (hg : Has w g (mach (nxt o g) c rest) T) :
    Calls Tryz.prog 58 #[.pointer (some ⟨g, 0, none⟩)] w fun e w' => e = .returned (.bool o.isNone) ∧ w = w' := by
  have F0 := hg.cell 0
  simp only [mach, List.getElem?_toArray, List.getElem?_cons_zero, List.getElem?_cons_succ] at F0
  cases o with
  | none =>
    simp only [nxt_none] at F0
    go_enter Tryz.func58, Tryz.ntmps58
    go_wp2
    go_ret
    exact ⟨rfl, rfl⟩
  | some f =>
    simp only [nxt_some] at F0
    go_enter Tryz.func58, Tryz.ntmps58
    go_wp2
    go_ret
    exact ⟨rfl, rfl⟩
theorem mgo_c (f h : Nat) {nx : Value} (hg : Has w g (mach nx c rest) T) :
    Calls Tryz.prog 41 #[.pointer (some ⟨g, 0, none⟩), bound f h] w fun e w' => e = .returned (.tuple #[]) ∧ Upd [g] w w' ∧ Has w' g (mach (bound f h) c rest) T := by
  have F0 := hg.cell 0
  have Fz := hg.frozen
  simp only [mach, List.getElem?_toArray, List.getElem?_cons_zero, List.getElem?_cons_succ] at F0
  go_enter Tryz.func41, Tryz.ntmps41
  go_wp2
  go_end0
  exact ⟨rfl, by (repeat (first | (with_reducible exact Upd.refl _ _) | (with_reducible assumption) | (with_reducible refine Upd.setCell ?_ (by first | (left; simp; done) | (right; go_size)) _) | (with_reducible refine Upd.alloc ?_ _) | (with_reducible refine Upd.drewN ?_ _) | (with_reducible refine Upd.drew ?_))), by (apply Has.congr; (focus ((repeat (first | (with_reducible assumption) | (with_reducible exact Has.new _ _ _) | (with_reducible exact Has.new1 _ _ _ _) | (with_reducible exact Has.new2 _ _ _ _ _) | (with_reducible refine Has.newAt ?_; (simp; done)) | (with_reducible apply Has.set) | (with_reducible apply Has.far; (case hn => first | assumption | (simp; done) | (intro e_; simp at e_; omega))) | (with_reducible apply Has.alloc) | (with_reducible apply Has.drewN) | (with_reducible apply Has.drew) | (with_reducible refine Has.keeps ?_ (by with_reducible assumption)))))); (first | rfl | (simp; done)))⟩
end
end Go.Proofs.YtaecapjicphdkaaGreat
