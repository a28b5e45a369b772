/- Create (layer 11): its machine of five function cells, walked. -/
import Derived.Test.YtaecapjicphdkaaGreatMg23
import Derived.Test.YtaecapjicphdkaaGreatMg14
import Derived.Deep.RegionHeld3
import Derived.Deep.RegionLaw
import Derived.LoopTactic
import Derived.Deep.DeepCutAuto
import Derived.Deep.QuietTactic
import Derived.BigQuiet
namespace Go.Proofs.YtaecapjicphdkaaGreat
set_option linter.unusedVariables false
set_option linter.unusedSimpArgs false
open Go Go.RowKit
set_option maxRecDepth 100000
set_option maxHeartbeats 1000000

/-- A machine's first cells, with the other machine that it goes through. -/
abbrev mach5 (nx st dn th : Value) (c : Int) (rest : List Value) : Array Value := (nx :: st :: dn :: th :: .int .i64 c :: rest).toArray
def createOf (nx : Value) (c : Int) (R : Nat) (cls : Int) (pg x : Nat) (slot point g mk cl ofs code : Int) : Array Value :=
  mach5 nx (bound 71 pg) (bound 72 pg) (bound 73 x) c
    [.pointer (some ⟨R, 0, none⟩), .int .i64 cls, .pointer (some ⟨pg, 0, none⟩), .int .i64 slot, .int .i64 point, .int .i64 g, .int .i64 mk, .int .i64 cl, .int .i64 ofs, .int .i64 code]
theorem entr_crThrough : Entr 135 := fun args w => by kernel_rfl
theorem entr_crLoad : Entr 117 := fun args w => by kernel_rfl
theorem entr_crStore : Entr 137 := fun args w => by kernel_rfl
theorem entr_crPopped : Entr 73 := fun args w => by kernel_rfl
theorem entr_poStep : Entr 71 := fun args w => by kernel_rfl
theorem entr_poDone : Entr 72 := fun args w => by kernel_rfl
section
variable {f g : Nat} {c : Int} {rest : List Value} {T : TypeId} {w : World} {Q : World → Prop} {o : Option Nat} {st dn th : Value}
theorem mstep5_c (hf : Entr f) (hg : Has w g (mach5 (bound f g) st dn th c rest) T) (h0 : 0 ≤ c) (h1 : c < 1000000000)
    (h : ∀ w1, Upd [g] w w1 → Has w1 g (mach5 .nilFunc st dn th (c + 1) rest) T → Calls Tryz.prog f #[.pointer (some ⟨g, 0, none⟩)] w1 fun e w' => e = .returned (.tuple #[]) ∧ Q w') :
    Calls Tryz.prog 57 #[.pointer (some ⟨g, 0, none⟩)] w fun e w' => e = .returned (.bool true) ∧ Q w' := by
  have F0 := hg.cell 0
  have F4 := hg.cell 4
  have Fz := hg.frozen
  simp only [mach5, List.getElem?_toArray, List.getElem?_cons_zero, List.getElem?_cons_succ] at F0 F4
  have hf' : ∀ (args : Array Value) (w : World), (callFunc f args).run Tryz.prog w = .ok (.enter f args) w := hf
  go_enter Tryz.func57, Tryz.ntmps57
  go_wp2
  refine (h _ (by (repeat (first | (with_reducible exact Upd.refl _ _) | (with_reducible assumption) | (with_reducible refine Upd.setCell ?_ (by first | (left; simp; done) | (right; go_size)) _) | (with_reducible refine Upd.alloc ?_ _) | (with_reducible refine Upd.drewN ?_ _) | (with_reducible refine Upd.drew ?_)))) (by (apply Has.congr; (focus ((repeat (first | (with_reducible assumption) | (with_reducible exact Has.new _ _ _) | (with_reducible exact Has.new1 _ _ _ _) | (with_reducible exact Has.new2 _ _ _ _ _) | (with_reducible refine Has.newAt ?_; (simp; done)) | (with_reducible apply Has.set) | (with_reducible apply Has.far; (case hn => first | assumption | (simp; done) | (intro e_; simp at e_; omega))) | (with_reducible apply Has.alloc) | (with_reducible apply Has.drewN) | (with_reducible apply Has.drew) | (with_reducible refine Has.keeps ?_ (by with_reducible assumption)))))); (first | rfl | (simp; done))))).mono ?_
  rintro e w' ⟨rfl, hq⟩
  go_wp2
  go_ret
  exact ⟨rfl, hq⟩
theorem mstep5_nil (hg : Has w g (mach5 .nilFunc st dn th c rest) T) :
    Calls Tryz.prog 57 #[.pointer (some ⟨g, 0, none⟩)] w fun e w' => e = .returned (.bool false) ∧ w = w' := by
  have F0 := hg.cell 0
  simp only [mach5, List.getElem?_toArray, List.getElem?_cons_zero, List.getElem?_cons_succ] at F0
  go_enter Tryz.func57, Tryz.ntmps57
  go_wp2
  go_ret
  exact ⟨rfl, rfl⟩
theorem mdone5_c (hg : Has w g (mach5 (nxt o g) st dn th c rest) T) :
    Calls Tryz.prog 58 #[.pointer (some ⟨g, 0, none⟩)] w fun e w' => e = .returned (.bool o.isNone) ∧ w = w' := by
  have F0 := hg.cell 0
  simp only [mach5, List.getElem?_toArray, List.getElem?_cons_zero, List.getElem?_cons_succ] at F0
  cases o with
  | none =>
    simp only [nxt_none] at F0
    go_enter Tryz.func58, Tryz.ntmps58
    go_wp2
    go_ret
    exact ⟨rfl, rfl⟩
  | some f =>
    simp only [nxt_some] at F0
    go_enter Tryz.func58, Tryz.ntmps58
    go_wp2
    go_ret
    exact ⟨rfl, rfl⟩
theorem mcount5_c {nx : Value} (hg : Has w g (mach5 nx st dn th c rest) T) :
    Calls Tryz.prog 79 #[.pointer (some ⟨g, 0, none⟩)] w fun e w' => e = .returned (.int .i64 c) ∧ w = w' := by
  have F4 := hg.cell 4
  simp only [mach5, List.getElem?_toArray, List.getElem?_cons_zero, List.getElem?_cons_succ] at F4
  go_enter Tryz.func79, Tryz.ntmps79
  go_wp2
  go_ret
  exact ⟨rfl, rfl⟩
theorem mgo5_c (f h : Nat) {nx : Value} (hg : Has w g (mach5 nx st dn th c rest) T) :
    Calls Tryz.prog 41 #[.pointer (some ⟨g, 0, none⟩), bound f h] w fun e w' => e = .returned (.tuple #[]) ∧ Upd [g] w w' ∧ Has w' g (mach5 (bound f h) st dn th c rest) T := by
  have F0 := hg.cell 0
  have Fz := hg.frozen
  simp only [mach5, List.getElem?_toArray, List.getElem?_cons_zero, List.getElem?_cons_succ] at F0
  go_enter Tryz.func41, Tryz.ntmps41
  go_wp2
  go_end0
  exact ⟨rfl, by (repeat (first | (with_reducible exact Upd.refl _ _) | (with_reducible assumption) | (with_reducible refine Upd.setCell ?_ (by first | (left; simp; done) | (right; go_size)) _) | (with_reducible refine Upd.alloc ?_ _) | (with_reducible refine Upd.drewN ?_ _) | (with_reducible refine Upd.drew ?_))), by (apply Has.congr; (focus ((repeat (first | (with_reducible assumption) | (with_reducible exact Has.new _ _ _) | (with_reducible exact Has.new1 _ _ _ _) | (with_reducible exact Has.new2 _ _ _ _ _) | (with_reducible refine Has.newAt ?_; (simp; done)) | (with_reducible apply Has.set) | (with_reducible apply Has.far; (case hn => first | assumption | (simp; done) | (intro e_; simp at e_; omega))) | (with_reducible apply Has.alloc) | (with_reducible apply Has.drewN) | (with_reducible apply Has.drew) | (with_reducible refine Has.keeps ?_ (by with_reducible assumption)))))); (first | rfl | (simp; done)))⟩
end
section
variable {w : World} {R m bb S N B : Nat} {l : List Int} {cc : Int} {x : Acc} {p k d sn cz b : Int} {y pg : Nat} {v : Value} {s : Po} {c cls slot point g mk cl ofs code : Int} {hd lk n : Nat}
theorem PoRep.updT {T : List Nat} {w' : World} (h : PoRep w B pg S v s) (hu : Upd T w w') (h1 : pg ∉ T) (h2 : ∀ z ∈ ownB v, z ∉ T) : PoRep w' B pg S v s := ⟨h.has.upd hu h1, h.row.upd hu h2⟩
theorem PoRep.offx {w' : World} {cs : Array Value} (h : PoRep w B pg S v s) (hx : Has w y cs 140) (hu : Upd [y] w w') : PoRep w' B pg S v s :=
  h.updT hu (by simp; exact h.has.ne hx (by decide)) (fun z hz => by simp; exact h.row.ne hx (by decide) z hz)
/-- popped: there was no slot. -/
theorem crPopped_none (hx : Has w y (createOf .nilFunc c R cls pg y slot point g mk cl ofs code) 140) (hp : PoRep w B pg S v s) (h3 : 3 ≤ s.ph) (hg : s.got = []) :
    Calls Tryz.prog 73 #[.pointer (some ⟨y, 0, none⟩)] w fun e w' => e = .returned (.tuple #[]) ∧ Upd [y] w w' ∧ Has w' y (createOf .nilFunc c R cls pg y slot c g mk cl ofs 7) 140 := by
  have hgl : s.got.length ≤ 1000000 := by rw [hg]; simp
  have HG := Lib.hid hg
  have HP := Lib.hid hp
  have HH := Lib.hid h3
  clear hp hg h3
  have FX_ := (hx).facts; simp only [blockFacts, listFacts, cellsAt, Nat.reduceAdd, and_true, true_and, and_assoc, createOf] at FX_
  go_enter Tryz.func73, Tryz.ntmps73
  go_wp2_with (first
    | (go_at_call 79; refine (mcount5_c hx).mono ?_; rintro e w' ⟨rfl, rfl⟩)
    | (go_at_call 116; refine (got_c (s := s) (v := v) (B := B) (S := S) (HP.out.offx hx (by (repeat (first | (with_reducible exact Upd.refl _ _) | (with_reducible assumption) | (with_reducible refine Upd.setCell ?_ (by first | (left; simp; done) | (right; go_size)) _) | (with_reducible refine Upd.alloc ?_ _) | (with_reducible refine Upd.drewN ?_ _) | (with_reducible refine Upd.drew ?_))))) HH.out hgl).mono ?_; rintro e w' ⟨v', rfl, hk, hr⟩; obtain ⟨ad, cap, hv, _⟩ := hr.reads; subst hv; rw [HG.out]; have hx2 : Has w' y (createOf .nilFunc c R cls pg y slot c g mk cl ofs code) 140 := Has.keeps (by (apply Has.congr; (focus ((repeat (first | (with_reducible assumption) | (with_reducible exact Has.new _ _ _) | (with_reducible exact Has.new1 _ _ _ _) | (with_reducible exact Has.new2 _ _ _ _ _) | (with_reducible refine Has.newAt ?_; (simp; done)) | (with_reducible apply Has.set) | (with_reducible apply Has.far; (case hn => first | assumption | (simp; done) | (intro e_; simp at e_; omega))) | (with_reducible apply Has.alloc) | (with_reducible apply Has.drewN) | (with_reducible apply Has.drew) | (with_reducible refine Has.keeps ?_ (by with_reducible assumption)))))); (first | rfl | (simp; done)))) hk; have U1 : Upd [y] w w' := Upd.trans (by (repeat (first | (with_reducible exact Upd.refl _ _) | (with_reducible assumption) | (with_reducible refine Upd.setCell ?_ (by first | (left; simp; done) | (right; go_size)) _) | (with_reducible refine Upd.alloc ?_ _) | (with_reducible refine Upd.drewN ?_ _) | (with_reducible refine Upd.drew ?_)))) (Upd.of_keeps hk); have FX_ := (hx2).facts; simp only [blockFacts, listFacts, cellsAt, Nat.reduceAdd, and_true, true_and, and_assoc, createOf] at FX_))
  ((try simp only [Exit.inBlock, Exit.then]); refine bodyPost_ret (results_none rfl _ _ _) rfl ?_)
  exact ⟨rfl, U1.trans (by (repeat (first | (with_reducible exact Upd.refl _ _) | (with_reducible assumption) | (with_reducible refine Upd.setCell ?_ (by first | (left; simp; done) | (right; go_size)) _) | (with_reducible refine Upd.alloc ?_ _) | (with_reducible refine Upd.drewN ?_ _) | (with_reducible refine Upd.drew ?_)))), by (apply Has.congr; (focus ((repeat (first | (with_reducible assumption) | (with_reducible exact Has.new _ _ _) | (with_reducible exact Has.new1 _ _ _ _) | (with_reducible exact Has.new2 _ _ _ _ _) | (with_reducible refine Has.newAt ?_; (simp; done)) | (with_reducible apply Has.set) | (with_reducible apply Has.far; (case hn => first | assumption | (simp; done) | (intro e_; simp at e_; omega))) | (with_reducible apply Has.alloc) | (with_reducible apply Has.drewN) | (with_reducible apply Has.drew) | (with_reducible refine Has.keeps ?_ (by with_reducible assumption)))))); (first | rfl | (simp; done)))⟩
theorem crPopped_some {z : Int} {zs : List Int} (hx : Has w y (createOf .nilFunc c R cls pg y slot point g mk cl ofs code) 140) (hp : PoRep w B pg S v s) (h3 : 3 ≤ s.ph) (hg : s.got = z :: zs) (hl : s.got.length ≤ 1000000) :
    Calls Tryz.prog 73 #[.pointer (some ⟨y, 0, none⟩)] w fun e w' => e = .returned (.tuple #[]) ∧ Upd [y] w w' ∧ Has w' y (createOf (bound 117 y) c R cls pg y z c g mk cl ofs code) 140 := by
  have HL := Lib.hid hl
  have HG := Lib.hid hg
  have HP := Lib.hid hp
  have HH := Lib.hid h3
  clear hp hg h3 hl
  have FX_ := (hx).facts; simp only [blockFacts, listFacts, cellsAt, Nat.reduceAdd, and_true, true_and, and_assoc, createOf] at FX_
  go_enter Tryz.func73, Tryz.ntmps73
  go_wp2_with (first
    | (go_at_call 79; refine (mcount5_c hx).mono ?_; rintro e w' ⟨rfl, rfl⟩)
    | (go_at_call 116; refine (got_c (s := s) (v := v) (B := B) (S := S) (HP.out.offx hx (by (repeat (first | (with_reducible exact Upd.refl _ _) | (with_reducible assumption) | (with_reducible refine Upd.setCell ?_ (by first | (left; simp; done) | (right; go_size)) _) | (with_reducible refine Upd.alloc ?_ _) | (with_reducible refine Upd.drewN ?_ _) | (with_reducible refine Upd.drew ?_))))) HH.out HL.out).mono ?_; rintro e w' ⟨v', rfl, hk, hr⟩; rw [HG.out] at hr; obtain ⟨lb, cap, cur, rfl, hL, hcur⟩ := hr.formI (by simp); have hz0 := hL.cellv (hcur 0 (by simp)); simp only [List.getD_cons_zero] at hz0; have hx2 : Has w' y (createOf .nilFunc c R cls pg y slot c g mk cl ofs code) 140 := Has.keeps (by (apply Has.congr; (focus ((repeat (first | (with_reducible assumption) | (with_reducible exact Has.new _ _ _) | (with_reducible exact Has.new1 _ _ _ _) | (with_reducible exact Has.new2 _ _ _ _ _) | (with_reducible refine Has.newAt ?_; (simp; done)) | (with_reducible apply Has.set) | (with_reducible apply Has.far; (case hn => first | assumption | (simp; done) | (intro e_; simp at e_; omega))) | (with_reducible apply Has.alloc) | (with_reducible apply Has.drewN) | (with_reducible apply Has.drew) | (with_reducible refine Has.keeps ?_ (by with_reducible assumption)))))); (first | rfl | (simp; done)))) hk; have U1 : Upd [y] w w' := Upd.trans (by (repeat (first | (with_reducible exact Upd.refl _ _) | (with_reducible assumption) | (with_reducible refine Upd.setCell ?_ (by first | (left; simp; done) | (right; go_size)) _) | (with_reducible refine Upd.alloc ?_ _) | (with_reducible refine Upd.drewN ?_ _) | (with_reducible refine Upd.drew ?_)))) (Upd.of_keeps hk); simp only [List.length_cons]; have FX_ := (hx2).facts; simp only [blockFacts, listFacts, cellsAt, Nat.reduceAdd, and_true, true_and, and_assoc, createOf] at FX_)
    | (go_at_call 41; refine (mgo5_c (st := bound 71 pg) (dn := bound 72 pg) (th := bound 73 y) (c := c) (nx := .nilFunc) (rest := [.pointer (some ⟨R, 0, none⟩), .int .i64 cls, .pointer (some ⟨pg, 0, none⟩), .int .i64 z, .int .i64 c, .int .i64 g, .int .i64 mk, .int .i64 cl, .int .i64 ofs, .int .i64 code]) (T := 140) _ _ (by (apply Has.congr; (focus ((repeat (first | (with_reducible assumption) | (with_reducible exact Has.new _ _ _) | (with_reducible exact Has.new1 _ _ _ _) | (with_reducible exact Has.new2 _ _ _ _ _) | (with_reducible refine Has.newAt ?_; (simp; done)) | (with_reducible apply Has.set) | (with_reducible apply Has.far; (case hn => first | assumption | (simp; done) | (intro e_; simp at e_; omega))) | (with_reducible apply Has.alloc) | (with_reducible apply Has.drewN) | (with_reducible apply Has.drew) | (with_reducible refine Has.keeps ?_ (by with_reducible assumption)))))); (first | rfl | (simp; done))))).mono ?_; rintro e w9 ⟨rfl, hu9, h9⟩))
  go_end0
  exact ⟨rfl, (U1.trans (by (repeat (first | (with_reducible exact Upd.refl _ _) | (with_reducible assumption) | (with_reducible refine Upd.setCell ?_ (by first | (left; simp; done) | (right; go_size)) _) | (with_reducible refine Upd.alloc ?_ _) | (with_reducible refine Upd.drewN ?_ _) | (with_reducible refine Upd.drew ?_))))).trans hu9, h9⟩
theorem crOn_c (hd : decide (3 ≤ s.ph) = false) (hx : Has w y (createOf .nilFunc c R cls pg y slot point g mk cl ofs code) 140) (hp : PoRep w B pg S v s) :
    Calls Tryz.prog 115 #[.pointer (some ⟨y, 0, none⟩)] w fun e w' => e = .returned (.tuple #[]) ∧ Upd [y] w w' ∧ Has w' y (createOf (bound 135 y) c R cls pg y slot point g mk cl ofs code) 140 := by
  have HD := Lib.hid hd
  have HP := Lib.hid hp
  clear hd hp
  have hf' : ∀ (args : Array Value) (w : World), (callFunc 72 args).run Tryz.prog w = .ok (.enter 72 args) w := entr_poDone
  have FX_ := (hx).facts; simp only [blockFacts, listFacts, cellsAt, Nat.reduceAdd, and_true, true_and, and_assoc, createOf] at FX_
  go_enter Tryz.func115, Tryz.ntmps115
  go_wp2_with (go_at_call 72; refine (poDone_c HP.out).mono ?_; rintro e w' ⟨rfl, rfl⟩; rw [HD.out])
  go_end0
  exact ⟨rfl, by (repeat (first | (with_reducible exact Upd.refl _ _) | (with_reducible assumption) | (with_reducible refine Upd.setCell ?_ (by first | (left; simp; done) | (right; go_size)) _) | (with_reducible refine Upd.alloc ?_ _) | (with_reducible refine Upd.drewN ?_ _) | (with_reducible refine Upd.drew ?_))), by (apply Has.congr; (focus ((repeat (first | (with_reducible assumption) | (with_reducible exact Has.new _ _ _) | (with_reducible exact Has.new1 _ _ _ _) | (with_reducible exact Has.new2 _ _ _ _ _) | (with_reducible refine Has.newAt ?_; (simp; done)) | (with_reducible apply Has.set) | (with_reducible apply Has.far; (case hn => first | assumption | (simp; done) | (intro e_; simp at e_; omega))) | (with_reducible apply Has.alloc) | (with_reducible apply Has.drewN) | (with_reducible apply Has.drew) | (with_reducible refine Has.keeps ?_ (by with_reducible assumption)))))); (first | rfl | (simp; done)))⟩
theorem crOn_done {Q : World → Prop} (hd : decide (3 ≤ s.ph) = true) (hx : Has w y (createOf .nilFunc c R cls pg y slot point g mk cl ofs code) 140) (hp : PoRep w B pg S v s)
    (hq : Calls Tryz.prog 73 #[.pointer (some ⟨y, 0, none⟩)] w fun e w' => e = .returned (.tuple #[]) ∧ Q w') :
    Calls Tryz.prog 115 #[.pointer (some ⟨y, 0, none⟩)] w fun e w' => e = .returned (.tuple #[]) ∧ Q w' := by
  have HD := Lib.hid hd
  have HP := Lib.hid hp
  have HQ := Lib.hid hq
  clear hd hp hq
  have hf' : ∀ (args : Array Value) (w : World), (callFunc 72 args).run Tryz.prog w = .ok (.enter 72 args) w := entr_poDone
  have hf2 : ∀ (args : Array Value) (w : World), (callFunc 73 args).run Tryz.prog w = .ok (.enter 73 args) w := entr_crPopped
  have FX_ := (hx).facts; simp only [blockFacts, listFacts, cellsAt, Nat.reduceAdd, and_true, true_and, and_assoc, createOf] at FX_
  go_enter Tryz.func115, Tryz.ntmps115
  go_wp2_with (first
    | (go_at_call 72; refine (poDone_c HP.out).mono ?_; rintro e w' ⟨rfl, rfl⟩; rw [HD.out])
    | (go_at_call 73; refine (HQ.out).mono ?_; rintro e w' ⟨rfl, hq⟩))
  ((try simp only [Exit.inBlock, Exit.then]); refine bodyPost_ret (results_none rfl _ _ _) rfl ?_)
  exact ⟨rfl, hq⟩
/-- through: the Pop's access, and on. -/
theorem crThrough_c {Q : World → Prop} (hx : Has w y (createOf .nilFunc c R cls pg y slot point g mk cl ofs code) 140)
    (hs : Calls Tryz.prog 71 #[.pointer (some ⟨pg, 0, none⟩)] w fun e w' => ∃ v', e = .returned (.bool (decide (s.ph < 3))) ∧ Upd (pg :: m :: bb :: ownB v) w w' ∧ PoRep w' B pg S v' (poStep hd lk n l s) ∧ (∃ x', Mem w' m bb N (poMem hd l s) (cc + poCount s) x') ∧ (∀ z ∈ ownB v', z ∈ ownB v ∨ w.heap.size ≤ z))
    (hn : y ∉ pg :: m :: bb :: ownB v)
    (ho : ∀ w1 v', Upd (pg :: m :: bb :: ownB v) w w1 → Has w1 y (createOf .nilFunc c R cls pg y slot point g mk cl ofs code) 140 → PoRep w1 B pg S v' (poStep hd lk n l s) → (∃ x', Mem w1 m bb N (poMem hd l s) (cc + poCount s) x') → (∀ z ∈ ownB v', z ∈ ownB v ∨ w.heap.size ≤ z) →
      Calls Tryz.prog 115 #[.pointer (some ⟨y, 0, none⟩)] w1 fun e w' => e = .returned (.tuple #[]) ∧ Q w') :
    Calls Tryz.prog 135 #[.pointer (some ⟨y, 0, none⟩)] w fun e w' => e = .returned (.tuple #[]) ∧ Q w' := by
  have HS := Lib.hid hs
  have HO := Lib.hid ho
  clear hs ho
  have hf' : ∀ (args : Array Value) (w : World), (callFunc 71 args).run Tryz.prog w = .ok (.enter 71 args) w := entr_poStep
  have FX_ := (hx).facts; simp only [blockFacts, listFacts, cellsAt, Nat.reduceAdd, and_true, true_and, and_assoc, createOf] at FX_
  go_enter Tryz.func135, Tryz.ntmps135
  go_wp2_with (first
    | (go_at_call 71; refine (HS.out).mono ?_; rintro e w' ⟨v', rfl, hu, hp, hM, ho⟩)
    | (go_at_call 115; refine (HO.out _ v' hu (hx.upd hu hn) hp hM ho).mono ?_; rintro e w' ⟨rfl, hq⟩))
  go_end0
  exact ⟨rfl, hq⟩
/-- The root that a slot has behind it. -/
def genN (g : Int) : Int := if g < 4294967295 then g + 1 else 0
theorem crNext_c {nx : Value} (g0 m0 c0 o0 : Int) (hg0 : 0 ≤ g0) (hx : Has w y (createOf nx c R cls pg y slot point g mk cl ofs code) 140) :
    Calls Tryz.prog 136 #[.pointer (some ⟨y, 0, none⟩), .agg #[.int .i64 g0, .int .i64 m0, .int .i64 c0, .int .i64 o0]] w fun e w' => e = .returned (.agg #[.int .i64 (genN g0), .int .i64 1, .int .i64 cls, .int .i64 0]) ∧ Keeps w w' := by
  have nyw := hx.lt
  have FX_ := (hx).facts; simp only [blockFacts, listFacts, cellsAt, Nat.reduceAdd, and_true, true_and, and_assoc, createOf] at FX_
  by_cases h : g0 < 4294967295
  · have e : genN g0 = g0 + 1 := if_pos h
    rw [e]
    have he := Lib.hid e
    clear e
    go_enter Tryz.func136, Tryz.ntmps136
    go_wp2
    refine bodyPost_ret (v := .agg #[.int .i64 (g0 + 1), .int .i64 1, .int .i64 cls, .int .i64 0]) (by simp [results, Tryz.results136, go_sem, FX_]) rfl ?_
    exact ⟨rfl, by ((repeat' (first | (with_reducible exact Keeps.refl _) | (with_reducible assumption) | (with_reducible refine Keeps.drewN ?_ _) | (with_reducible refine Keeps.drew ?_) | (with_reducible refine Keeps.alloc ?_ _) | (with_reducible refine Keeps.setCell ?_ ?_ _) | (with_reducible refine Keeps.trans ?_ (After.keeps _)) | (with_reducible refine Keeps.trans ?_ (by with_reducible assumption)) | go_size)); (first | done | fail))⟩
  · have e : genN g0 = 0 := if_neg h
    rw [e]
    clear e
    go_enter Tryz.func136, Tryz.ntmps136
    go_wp2
    refine bodyPost_ret (v := .agg #[.int .i64 0, .int .i64 1, .int .i64 cls, .int .i64 0]) (by simp [results, Tryz.results136, go_sem, FX_]) rfl ?_
    exact ⟨rfl, by ((repeat' (first | (with_reducible exact Keeps.refl _) | (with_reducible assumption) | (with_reducible refine Keeps.drewN ?_ _) | (with_reducible refine Keeps.drew ?_) | (with_reducible refine Keeps.alloc ?_ _) | (with_reducible refine Keeps.setCell ?_ ?_ _) | (with_reducible refine Keeps.trans ?_ (After.keeps _)) | (with_reducible refine Keeps.trans ?_ (by with_reducible assumption)) | go_size)); (first | done | fail))⟩
end
end Go.Proofs.YtaecapjicphdkaaGreat

/- Create, Look, End (layer 11): each access, walked. -/
namespace Go.Proofs.YtaecapjicphdkaaGreat
set_option linter.unusedVariables false
set_option linter.unusedSimpArgs false
open Go Go.RowKit
set_option maxRecDepth 100000
set_option maxHeartbeats 1000000

abbrev rootA (o : Int) : Array Value := #[.int .i64 (o / 4294967296), .int .i64 (o / 65536 % 65536), .int .i64 (o / 4096 % 16), .int .i64 (o % 4096)]
section
variable {w : World} {R m bb S N B : Nat} {l : List Int} {cc : Int} {x : Acc} {p k d sn cz b : Int} {y pg q : Nat} {c cls slot point g mk cl ofs code o : Int}
theorem crLoad_c (hx : Has w y (createOf .nilFunc c R cls pg y slot point g mk cl ofs code) 140) (hR : Has w R (rootsOf m p k d sn cz b S) 109) (M : Mem w m bb N l cc x) (hq : crootI p k d sn cz b slot = q) (ho : l[q]? = some o) (o0 : 0 ≤ o) (o1 : o < 18446744073709551616) (hcc : cc < 4611686018427387903) :
    Calls Tryz.prog 117 #[.pointer (some ⟨y, 0, none⟩)] w fun e w' => e = .returned (.tuple #[]) ∧ Upd [y, m, bb] w w' ∧ Has w' y (createOf (bound 137 y) c R cls pg y slot point (genN (o / 4294967296)) 1 cls 0 code) 140 ∧ ∃ x', Mem w' m bb N l (cc + 1) x' := by
  have HQ := Lib.hid hq
  have HO := Lib.hid ho
  clear hq ho
  have nym : m ≠ y := (Has.ne hx M.hg (by decide)).symm
  have nyb : bb ≠ y := (Has.ne hx M.hb (by decide)).symm
  have nyS : y ∉ [m, bb] := by simp; exact ⟨nym.symm, nyb.symm⟩
  have hsz := hx.lt
  have ltM0 := M.lt
  have ny0 : y ≠ w.heap.size := by omega
  have hx0 := hx
  have FX_ := (hx).facts; simp only [blockFacts, listFacts, cellsAt, Nat.reduceAdd, and_true, true_and, and_assoc, createOf] at FX_
  go_enter Tryz.func117, Tryz.ntmps117
  go_upto_region 0 with fail
  go_cut [3] (fun y3 wc => ∃ r3 : Nat, y3 = .pointer (some ⟨r3, 0, none⟩) ∧ w.heap.size ≤ r3 ∧ Has wc r3 (rootA o) 45 ∧ Upd [m, bb] w wc ∧ ∃ x', Mem wc m bb N l (cc + 1) x')
  case first =>
    go_region_held3 (fun u => u.cell? ⟨y, 5, none⟩ = some (.pointer (some ⟨R, 0, none⟩)) ∧ u.cell? ⟨y, 8, none⟩ = some (.int .i64 slot)) (((repeat' (with_reducible apply And.intro)) <;> (apply Has.cellv; (focus ((repeat (first | (with_reducible assumption) | (with_reducible exact Has.new _ _ _) | (with_reducible exact Has.new1 _ _ _ _) | (with_reducible exact Has.new2 _ _ _ _ _) | (with_reducible refine Has.newAt ?_; (simp; done)) | (with_reducible apply Has.set) | (with_reducible apply Has.far; (case hn => first | assumption | (simp; done) | (intro e_; simp at e_; omega))) | (with_reducible apply Has.alloc) | (with_reducible apply Has.drewN) | (with_reducible apply Has.drew) | (with_reducible refine Has.keeps ?_ (by with_reducible assumption)))))); (first | (with_reducible assumption) | rfl | (simp; done) | fail))))
      ((go_at_call 77; refine (rsload_c _ (hR.keeps (by ((repeat' (first | (with_reducible exact Keeps.refl _) | (with_reducible assumption) | (with_reducible refine Keeps.drewN ?_ _) | (with_reducible refine Keeps.drew ?_) | (with_reducible refine Keeps.alloc ?_ _) | (with_reducible refine Keeps.setCell ?_ ?_ _) | (with_reducible refine Keeps.trans ?_ (After.keeps _)) | (with_reducible refine Keeps.trans ?_ (by with_reducible assumption)) | go_size)); (first | done | fail)))) (M.keeps (by ((repeat' (first | (with_reducible exact Keeps.refl _) | (with_reducible assumption) | (with_reducible refine Keeps.drewN ?_ _) | (with_reducible refine Keeps.drew ?_) | (with_reducible refine Keeps.alloc ?_ _) | (with_reducible refine Keeps.setCell ?_ ?_ _) | (with_reducible refine Keeps.trans ?_ (After.keeps _)) | (with_reducible refine Keeps.trans ?_ (by with_reducible assumption)) | go_size)); (first | done | fail)))) HQ.out HO.out o0 o1 hcc).mono ?_; rintro e w' ⟨rfl, hu, x', M2⟩; have hx := (hx0.keeps (by ((repeat' (first | (with_reducible exact Keeps.refl _) | (with_reducible assumption) | (with_reducible refine Keeps.drewN ?_ _) | (with_reducible refine Keeps.drew ?_) | (with_reducible refine Keeps.alloc ?_ _) | (with_reducible refine Keeps.setCell ?_ ?_ _) | (with_reducible refine Keeps.trans ?_ (After.keeps _)) | (with_reducible refine Keeps.trans ?_ (by with_reducible assumption)) | go_size)); (first | done | fail)))).upd hu nyS; have U1 : Upd [m, bb] w w' := Upd.trans (by (repeat (first | (with_reducible exact Upd.refl _ _) | (with_reducible assumption) | (with_reducible refine Upd.setCell ?_ (by first | (left; simp; done) | (right; go_size)) _) | (with_reducible refine Upd.alloc ?_ _) | (with_reducible refine Upd.drewN ?_ _) | (with_reducible refine Upd.drew ?_)))) hu; have szu := U1.size; have ny1 : y ≠ w'.heap.size := (by have := hx.lt; omega); have ltM := M2.lt; have FX_ := (hx).facts; simp only [blockFacts, listFacts, cellsAt, Nat.reduceAdd, and_true, true_and, and_assoc, createOf] at FX_; (first | (have HB := Has.upd (Has.drew (Has.new w #[.int .i64 0, .int .i64 0, .int .i64 0, .int .i64 0] 45)) hu (by have := M.lt; simp only [List.mem_cons, List.not_mem_nil, or_false, not_or]; omega); have hBl := HB.lt; have FX_ := (HB).facts; simp only [blockFacts, listFacts, cellsAt, Nat.reduceAdd, and_true, true_and, and_assoc] at FX_) | skip)))
    all_goals go_wp2
    all_goals (go_meet; case rel => exact ⟨_, rfl, (by first | exact Nat.le_refl _ | exact szu | go_size), by (apply Has.congr; (focus ((repeat (first | (with_reducible assumption) | (with_reducible exact Has.new _ _ _) | (with_reducible exact Has.new1 _ _ _ _) | (with_reducible exact Has.new2 _ _ _ _ _) | (with_reducible refine Has.newAt ?_; (simp; done)) | (with_reducible apply Has.set) | (with_reducible apply Has.far; (case hn => first | assumption | (simp; done) | (intro e_; simp at e_; omega))) | (with_reducible apply Has.alloc) | (with_reducible apply Has.drewN) | (with_reducible apply Has.drew) | (with_reducible refine Has.keeps ?_ (by with_reducible assumption)))))); (first | rfl | (simp; done))), by (repeat (first | (with_reducible exact Upd.refl _ _) | (with_reducible assumption) | (with_reducible refine Upd.setCell ?_ (by first | (left; simp; done) | (right; go_size)) _) | (with_reducible refine Upd.alloc ?_ _) | (with_reducible refine Upd.drewN ?_ _) | (with_reducible refine Upd.drew ?_))), _, M2.upd (S := [w.heap.size]) (by (repeat (first | (with_reducible exact Upd.refl _ _) | (with_reducible assumption) | (with_reducible refine Upd.setCell ?_ (by first | (left; simp; done) | (right; go_size)) _) | (with_reducible refine Upd.alloc ?_ _) | (with_reducible refine Upd.drewN ?_ _) | (with_reducible refine Upd.drew ?_)))) (by simp; omega) (by simp; omega)⟩)
  case rest =>
    obtain ⟨r3, rfl, hr3, HB, U1, x', M2⟩ := hcut
    have hx := hx.upd U1 nyS
    have hn3 : y ≠ r3 := by omega
    generalize wc = W2 at *
    have FX_ := (HB).facts; simp only [blockFacts, listFacts, cellsAt, Nat.reduceAdd, and_true, true_and, and_assoc] at FX_
    have FB_ := FX_
    have FX_ := (hx).facts; simp only [blockFacts, listFacts, cellsAt, Nat.reduceAdd, and_true, true_and, and_assoc, createOf] at FX_
    go_wp2_with (first
      | (go_at_call 136; refine (crNext_c _ _ _ _ (Int.ediv_nonneg o0 (by omega)) hx).mono ?_; rintro e w' ⟨rfl, hk⟩; have hx := hx.keeps hk; have U1 := U1.trans (Upd.of_keeps hk); have M2 := M2.keeps hk; have FX_ := (hx).facts; simp only [blockFacts, listFacts, cellsAt, Nat.reduceAdd, and_true, true_and, and_assoc, createOf] at FX_)
      | (go_at_call 41; refine (mgo5_c (st := bound 71 pg) (dn := bound 72 pg) (th := bound 73 y) (c := c) (nx := .nilFunc) (rest := [.pointer (some ⟨R, 0, none⟩), .int .i64 cls, .pointer (some ⟨pg, 0, none⟩), .int .i64 slot, .int .i64 point, .int .i64 (genN (o / 4294967296)), .int .i64 1, .int .i64 cls, .int .i64 0, .int .i64 code]) (T := 140) _ _ (by (apply Has.congr; (focus ((repeat (first | (with_reducible assumption) | (with_reducible exact Has.new _ _ _) | (with_reducible exact Has.new1 _ _ _ _) | (with_reducible exact Has.new2 _ _ _ _ _) | (with_reducible refine Has.newAt ?_; (simp; done)) | (with_reducible apply Has.set) | (with_reducible apply Has.far; (case hn => first | assumption | (simp; done) | (intro e_; simp at e_; omega))) | (with_reducible apply Has.alloc) | (with_reducible apply Has.drewN) | (with_reducible apply Has.drew) | (with_reducible refine Has.keeps ?_ (by with_reducible assumption)))))); (first | rfl | (simp; done))))).mono ?_; rintro e w9 ⟨rfl, hu9, h9⟩))
    go_end0
    exact ⟨rfl, ((U1.mono (fun z hz => List.mem_cons_of_mem _ hz)).trans (Upd.trans (by (repeat (first | (with_reducible exact Upd.refl _ _) | (with_reducible assumption) | (with_reducible refine Upd.setCell ?_ (by first | (left; simp; done) | (right; go_size)) _) | (with_reducible refine Upd.alloc ?_ _) | (with_reducible refine Upd.drewN ?_ _) | (with_reducible refine Upd.drew ?_)))) (hu9.mono (by simp)))), h9, x', M2.upd (Upd.trans (by (repeat (first | (with_reducible exact Upd.refl _ _) | (with_reducible assumption) | (with_reducible refine Upd.setCell ?_ (by first | (left; simp; done) | (right; go_size)) _) | (with_reducible refine Upd.alloc ?_ _) | (with_reducible refine Upd.drewN ?_ _) | (with_reducible refine Upd.drew ?_)))) hu9) (by simp; exact nym) (by simp; exact nyb)⟩
theorem crStore_c (hx : Has w y (createOf .nilFunc c R cls pg y slot point g mk cl ofs code) 140) (hR : Has w R (rootsOf m p k d sn cz b S) 109) (M : Mem w m bb N l cc x) (hq : crootI p k d sn cz b slot = q) (ho : l[q]? = some o) (hcc : cc < 4611686018427387903) :
    Calls Tryz.prog 137 #[.pointer (some ⟨y, 0, none⟩)] w fun e w' => e = .returned (.tuple #[]) ∧ Upd [y, m, bb] w w' ∧ Has w' y (createOf .nilFunc c R cls pg y slot point g mk cl ofs code) 140 ∧ ∃ x', Mem w' m bb N (l.set q (rootI g mk cl ofs)) (cc + 1) x' := by
  have HQ := Lib.hid hq
  have HO := Lib.hid ho
  clear hq ho
  have nym : m ≠ y := (Has.ne hx M.hg (by decide)).symm
  have nyb : bb ≠ y := (Has.ne hx M.hb (by decide)).symm
  have nyS : y ∉ [m, bb] := by simp; exact ⟨nym.symm, nyb.symm⟩
  have nRS : R ∉ [m, bb] := by simp only [List.mem_cons, List.not_mem_nil, or_false, not_or]; exact ⟨Has.ne hR M.hg (by decide), Has.ne hR M.hb (by decide)⟩
  have HK := Keeps.refl w
  have FX_ := (hx).facts; simp only [blockFacts, listFacts, cellsAt, Nat.reduceAdd, and_true, true_and, and_assoc, createOf] at FX_
  go_enter Tryz.func137, Tryz.ntmps137
  go_upto_region 1 with (go_at_call 119; refine (putRoot_c _ _ _ _ _).mono ?_; rintro e w' ⟨rfl, hk⟩; have hx := hx.keeps hk; have hR := hR.keeps hk; have M := M.keeps hk; have HK := HK.trans hk)
  have HK2 := Keeps.refl w'
  go_region_held3 (fun u => ((((((((u.cell? ⟨R, 0, none⟩ = some (.pointer (some ⟨m, 0, none⟩)) ∧ u.cell? ⟨R, 1, none⟩ = some (.int .i64 p)) ∧ u.cell? ⟨R, 2, none⟩ = some (.int .i64 k)) ∧ u.cell? ⟨R, 3, none⟩ = some (.int .i64 d)) ∧ u.cell? ⟨R, 4, none⟩ = some (.int .i64 sn)) ∧ u.cell? ⟨R, 5, none⟩ = some (.int .i64 cz)) ∧ u.cell? ⟨R, 6, none⟩ = some (.int .i64 b)) ∧ u.cell? ⟨y, 5, none⟩ = some (.pointer (some ⟨R, 0, none⟩))) ∧ u.cell? ⟨y, 8, none⟩ = some (.int .i64 slot))) (((repeat' (with_reducible apply And.intro)) <;> (apply Has.cellv; (focus ((repeat (first | (with_reducible assumption) | (with_reducible exact Has.new _ _ _) | (with_reducible exact Has.new1 _ _ _ _) | (with_reducible exact Has.new2 _ _ _ _ _) | (with_reducible refine Has.newAt ?_; (simp; done)) | (with_reducible apply Has.set) | (with_reducible apply Has.far; (case hn => first | assumption | (simp; done) | (intro e_; simp at e_; omega))) | (with_reducible apply Has.alloc) | (with_reducible apply Has.drewN) | (with_reducible apply Has.drew) | (with_reducible refine Has.keeps ?_ (by with_reducible assumption)))))); (first | (with_reducible assumption) | rfl | (simp; done) | fail))))
    (first
      | (go_at_call 47; refine (lcroot_c _ _ _ _ _ _ _ _).mono ?_; rintro e w' ⟨rfl, hk5⟩; rw [HQ.out]; have hx := (hx.keeps (by ((repeat' (first | (with_reducible exact Keeps.refl _) | (with_reducible assumption) | (with_reducible refine Keeps.drewN ?_ _) | (with_reducible refine Keeps.drew ?_) | (with_reducible refine Keeps.alloc ?_ _) | (with_reducible refine Keeps.setCell ?_ ?_ _) | (with_reducible refine Keeps.trans ?_ (After.keeps _)) | (with_reducible refine Keeps.trans ?_ (by with_reducible assumption)) | go_size)); (first | done | fail)))).keeps hk5; have hR := (hR.keeps (by ((repeat' (first | (with_reducible exact Keeps.refl _) | (with_reducible assumption) | (with_reducible refine Keeps.drewN ?_ _) | (with_reducible refine Keeps.drew ?_) | (with_reducible refine Keeps.alloc ?_ _) | (with_reducible refine Keeps.setCell ?_ ?_ _) | (with_reducible refine Keeps.trans ?_ (After.keeps _)) | (with_reducible refine Keeps.trans ?_ (by with_reducible assumption)) | go_size)); (first | done | fail)))).keeps hk5; have HK2 := (HK2.drew).trans hk5)
      | (go_at_call 124; refine (mstore_in (M.keeps HK2) q _ HO.out hcc).mono ?_; rintro e w' ⟨rfl, hu, M2⟩; have hx := hx.upd hu nyS; have hR := hR.upd hu nRS))
  go_end0
  exact ⟨rfl, (Upd.of_keeps (HK.trans HK2)).trans (hu.mono (fun z hz => List.mem_cons_of_mem _ hz)), hx, _, M2⟩
end
end Go.Proofs.YtaecapjicphdkaaGreat
