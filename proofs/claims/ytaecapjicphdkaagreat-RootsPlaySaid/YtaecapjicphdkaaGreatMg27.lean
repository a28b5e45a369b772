/- Create, Look, End (layer 11) as plain machines: one contract for the Step of each. -/
import Derived.Test.YtaecapjicphdkaaGreatMg26
namespace Go.Proofs.YtaecapjicphdkaaGreat
set_option linter.unusedVariables false
set_option linter.unusedSimpArgs false
open Go Go.RowKit
set_option maxRecDepth 100000
set_option maxHeartbeats 1000000

theorem entr_lkLoad : Entr 42 := fun args w => by kernel_rfl
theorem entr_edLoad : Entr 43 := fun args w => by kernel_rfl
theorem entr_edCas : Entr 80 := fun args w => by kernel_rfl
section
variable {w : World} {g : Nat}
theorem crStep_of {o : Bool} {Q : World → Prop} (h : Calls Tryz.prog 57 #[.pointer (some ⟨g, 0, none⟩)] w fun e w' => e = .returned (.bool o) ∧ Q w') :
    Calls Tryz.prog 29 #[.pointer (some ⟨g, 0, none⟩)] w fun e w' => e = .returned (.bool o) ∧ Q w' := by
  have H := Lib.hid h
  clear h
  go_enter Tryz.func29, Tryz.ntmps29
  go_wp2_with (go_at_call 57; refine (H.out).mono ?_; rintro e w' ⟨rfl, hq⟩)
  go_ret
  exact ⟨rfl, hq⟩
theorem crDone_of {o : Bool} {Q : World → Prop} (h : Calls Tryz.prog 58 #[.pointer (some ⟨g, 0, none⟩)] w fun e w' => e = .returned (.bool o) ∧ Q w') :
    Calls Tryz.prog 31 #[.pointer (some ⟨g, 0, none⟩)] w fun e w' => e = .returned (.bool o) ∧ Q w' := by
  have H := Lib.hid h
  clear h
  go_enter Tryz.func31, Tryz.ntmps31
  go_wp2_with (go_at_call 58; refine (H.out).mono ?_; rintro e w' ⟨rfl, hq⟩)
  go_ret
  exact ⟨rfl, hq⟩
theorem lkStep_of {o : Bool} {Q : World → Prop} (h : Calls Tryz.prog 57 #[.pointer (some ⟨g, 0, none⟩)] w fun e w' => e = .returned (.bool o) ∧ Q w') :
    Calls Tryz.prog 21 #[.pointer (some ⟨g, 0, none⟩)] w fun e w' => e = .returned (.bool o) ∧ Q w' := by
  have H := Lib.hid h
  clear h
  go_enter Tryz.func21, Tryz.ntmps21
  go_wp2_with (go_at_call 57; refine (H.out).mono ?_; rintro e w' ⟨rfl, hq⟩)
  go_ret
  exact ⟨rfl, hq⟩
theorem lkDone_of {o : Bool} {Q : World → Prop} (h : Calls Tryz.prog 58 #[.pointer (some ⟨g, 0, none⟩)] w fun e w' => e = .returned (.bool o) ∧ Q w') :
    Calls Tryz.prog 22 #[.pointer (some ⟨g, 0, none⟩)] w fun e w' => e = .returned (.bool o) ∧ Q w' := by
  have H := Lib.hid h
  clear h
  go_enter Tryz.func22, Tryz.ntmps22
  go_wp2_with (go_at_call 58; refine (H.out).mono ?_; rintro e w' ⟨rfl, hq⟩)
  go_ret
  exact ⟨rfl, hq⟩
theorem edStep_of {o : Bool} {Q : World → Prop} (h : Calls Tryz.prog 57 #[.pointer (some ⟨g, 0, none⟩)] w fun e w' => e = .returned (.bool o) ∧ Q w') :
    Calls Tryz.prog 52 #[.pointer (some ⟨g, 0, none⟩)] w fun e w' => e = .returned (.bool o) ∧ Q w' := by
  have H := Lib.hid h
  clear h
  go_enter Tryz.func52, Tryz.ntmps52
  go_wp2_with (go_at_call 57; refine (H.out).mono ?_; rintro e w' ⟨rfl, hq⟩)
  go_ret
  exact ⟨rfl, hq⟩
theorem edDone_of {o : Bool} {Q : World → Prop} (h : Calls Tryz.prog 58 #[.pointer (some ⟨g, 0, none⟩)] w fun e w' => e = .returned (.bool o) ∧ Q w') :
    Calls Tryz.prog 53 #[.pointer (some ⟨g, 0, none⟩)] w fun e w' => e = .returned (.bool o) ∧ Q w' := by
  have H := Lib.hid h
  clear h
  go_enter Tryz.func53, Tryz.ntmps53
  go_wp2_with (go_at_call 58; refine (H.out).mono ?_; rintro e w' ⟨rfl, hq⟩)
  go_ret
  exact ⟨rfl, hq⟩
end
section
variable {w : World} {R y pg : Nat} {c cls slot point g mk cl ofs code gen was chunk : Int} {nx : Value}
theorem crCode_c (hx : Has w y (createOf nx c R cls pg y slot point g mk cl ofs code) 140) :
    Calls Tryz.prog 32 #[.pointer (some ⟨y, 0, none⟩)] w fun e w' => e = .returned (.int .i64 code) ∧ w = w' := by
  have FX_ := (hx).facts; simp only [blockFacts, listFacts, cellsAt, Nat.reduceAdd, and_true, true_and, and_assoc, createOf] at FX_
  go_enter Tryz.func32, Tryz.ntmps32
  go_wp2
  go_ret
  exact ⟨rfl, rfl⟩
theorem crPoint_c (hx : Has w y (createOf nx c R cls pg y slot point g mk cl ofs code) 140) :
    Calls Tryz.prog 33 #[.pointer (some ⟨y, 0, none⟩)] w fun e w' => e = .returned (.int .i64 point) ∧ w = w' := by
  have FX_ := (hx).facts; simp only [blockFacts, listFacts, cellsAt, Nat.reduceAdd, and_true, true_and, and_assoc, createOf] at FX_
  go_enter Tryz.func33, Tryz.ntmps33
  go_wp2
  go_ret
  exact ⟨rfl, rfl⟩
theorem lkCode_c (hx : Has w y (lookOf nx c R slot gen code ofs) 114) :
    Calls Tryz.prog 23 #[.pointer (some ⟨y, 0, none⟩)] w fun e w' => e = .returned (.int .i64 code) ∧ w = w' := by
  have FX_ := (hx).facts; simp only [blockFacts, listFacts, cellsAt, Nat.reduceAdd, and_true, true_and, and_assoc, lookOf] at FX_
  go_enter Tryz.func23, Tryz.ntmps23
  go_wp2
  go_ret
  exact ⟨rfl, rfl⟩
theorem lkOff_c (hx : Has w y (lookOf nx c R slot gen code ofs) 114) :
    Calls Tryz.prog 64 #[.pointer (some ⟨y, 0, none⟩)] w fun e w' => e = .returned (.int .i64 ofs) ∧ w = w' := by
  have FX_ := (hx).facts; simp only [blockFacts, listFacts, cellsAt, Nat.reduceAdd, and_true, true_and, and_assoc, lookOf] at FX_
  go_enter Tryz.func64, Tryz.ntmps64
  go_wp2
  go_ret
  exact ⟨rfl, rfl⟩
theorem edCode_c (hx : Has w y (endOf nx c R slot gen was code chunk point) 117) :
    Calls Tryz.prog 54 #[.pointer (some ⟨y, 0, none⟩)] w fun e w' => e = .returned (.int .i64 code) ∧ w = w' := by
  have FX_ := (hx).facts; simp only [blockFacts, listFacts, cellsAt, Nat.reduceAdd, and_true, true_and, and_assoc, endOf] at FX_
  go_enter Tryz.func54, Tryz.ntmps54
  go_wp2
  go_ret
  exact ⟨rfl, rfl⟩
theorem edPoint_c (hx : Has w y (endOf nx c R slot gen was code chunk point) 117) :
    Calls Tryz.prog 61 #[.pointer (some ⟨y, 0, none⟩)] w fun e w' => e = .returned (.int .i64 point) ∧ w = w' := by
  have FX_ := (hx).facts; simp only [blockFacts, listFacts, cellsAt, Nat.reduceAdd, and_true, true_and, and_assoc, endOf] at FX_
  go_enter Tryz.func61, Tryz.ntmps61
  go_wp2
  go_ret
  exact ⟨rfl, rfl⟩
theorem edChunk_c (hx : Has w y (endOf nx c R slot gen was code chunk point) 117) :
    Calls Tryz.prog 62 #[.pointer (some ⟨y, 0, none⟩)] w fun e w' => e = .returned (.int .i64 chunk) ∧ w = w' := by
  have FX_ := (hx).facts; simp only [blockFacts, listFacts, cellsAt, Nat.reduceAdd, and_true, true_and, and_assoc, endOf] at FX_
  go_enter Tryz.func62, Tryz.ntmps62
  go_wp2
  go_ret
  exact ⟨rfl, rfl⟩
theorem crDone_c {o : Option Nat} (hx : Has w y (createOf (nxt o y) c R cls pg y slot point g mk cl ofs code) 140) :
    Calls Tryz.prog 31 #[.pointer (some ⟨y, 0, none⟩)] w fun e w' => e = .returned (.bool o.isNone) ∧ w = w' := crDone_of (mdone5_c hx)
theorem lkDone_c {o : Option Nat} (hx : Has w y (lookOf (nxt o y) c R slot gen code ofs) 114) :
    Calls Tryz.prog 22 #[.pointer (some ⟨y, 0, none⟩)] w fun e w' => e = .returned (.bool o.isNone) ∧ w = w' := lkDone_of (mdone_c hx)
theorem edDone_c {o : Option Nat} (hx : Has w y (endOf (nxt o y) c R slot gen was code chunk point) 117) :
    Calls Tryz.prog 53 #[.pointer (some ⟨y, 0, none⟩)] w fun e w' => e = .returned (.bool o.isNone) ∧ w = w' := edDone_of (mdone_c hx)
theorem crRegion_c {o : Option Nat} {s2 g2 : Int} (h1 : o = none ∧ code = 0 → s2 = slot ∧ g2 = g) (h2 : ¬ (o = none ∧ code = 0) → s2 = 0 ∧ g2 = 0) (hx : Has w y (createOf (nxt o y) c R cls pg y slot point g mk cl ofs code) 140) :
    Calls Tryz.prog 30 #[.pointer (some ⟨y, 0, none⟩)] w fun e w' => e = .returned (.tuple #[.int .i64 s2, .int .i64 g2]) ∧ ∃ j, w' = w.drewN j := by
  have HD := Lib.hid (crDone_c hx)
  by_cases ho : o = none
  · subst ho
    by_cases hc : code = 0
    · subst hc
      obtain ⟨rfl, rfl⟩ := h1 ⟨rfl, rfl⟩
      clear h1 h2
      have FX_ := (hx).facts; simp only [blockFacts, listFacts, cellsAt, Nat.reduceAdd, and_true, true_and, and_assoc, createOf] at FX_
      go_enter Tryz.func30, Tryz.ntmps30
      go_wp2_with (go_at_call 31; refine HD.out.mono ?_; rintro e w' ⟨rfl, rfl⟩)
      all_goals go_region_held3 (fun u => u.cell? ⟨y, 8, none⟩ = some (.int .i64 s2) ∧ u.cell? ⟨y, 10, none⟩ = some (.int .i64 g2)) (((repeat' (with_reducible apply And.intro)) <;> (apply Has.cellv; (focus ((repeat (first | (with_reducible assumption) | (with_reducible exact Has.new _ _ _) | (with_reducible exact Has.new1 _ _ _ _) | (with_reducible exact Has.new2 _ _ _ _ _) | (with_reducible refine Has.newAt ?_; (simp; done)) | (with_reducible apply Has.set) | (with_reducible apply Has.far; (case hn => first | assumption | (simp; done) | (intro e_; simp at e_; omega))) | (with_reducible apply Has.alloc) | (with_reducible apply Has.drewN) | (with_reducible apply Has.drew) | (with_reducible refine Has.keeps ?_ (by with_reducible assumption)))))); (first | (with_reducible assumption) | rfl | (simp; done) | fail)))) (fail)
      all_goals go_wp2
      go_ret2
      exact ⟨rfl, 1, rfl⟩
    · obtain ⟨rfl, rfl⟩ := h2 (by simp; exact hc)
      have hcc : (code != 0) = true := by simpa using hc
      clear h1 h2 hc
      have FX_ := (hx).facts; simp only [blockFacts, listFacts, cellsAt, Nat.reduceAdd, and_true, true_and, and_assoc, createOf] at FX_
      go_enter Tryz.func30, Tryz.ntmps30
      go_wp2_with (go_at_call 31; refine HD.out.mono ?_; rintro e w' ⟨rfl, rfl⟩)
      go_ret2
      exact ⟨rfl, 0, rfl⟩
  · obtain ⟨rfl, rfl⟩ := h2 (by simp [ho])
    have hoo : o.isNone = false := by cases o with | none => exact absurd rfl ho | some _ => rfl
    rw [hoo] at HD
    clear h1 h2 ho hoo
    go_enter Tryz.func30, Tryz.ntmps30
    go_wp2_with (go_at_call 31; refine HD.out.mono ?_; rintro e w' ⟨rfl, rfl⟩)
    go_ret2
    exact ⟨rfl, 0, rfl⟩
end

/-- A Create's state: what comes next (0 the Pop, 1 the Load, 2 the Store, 3 nothing), how many accesses, its slot, its point, its root, what came of it, its Pop. -/
structure Cr where
  ph : Nat
  c : Int
  slot : Int
  point : Int
  g : Int
  mark : Int
  cl : Int
  ofs : Int
  code : Int
  pop : Po
def crNx : Nat → Option Nat
  | 0 => some 135
  | 1 => some 117
  | 2 => some 137
  | _ => none
structure CrRep (w : World) (B y pg R S : Nat) (cls : Int) (v : Value) (s : Cr) : Prop where
  has : Has w y (createOf (nxt (crNx s.ph) y) s.c R cls pg y s.slot s.point s.g s.mark s.cl s.ofs s.code) 140
  pop : PoRep w B pg S v s.pop
/-- One access: hd, lk, n the stack of spare slots, ra where the roots begin. -/
def crPopped (cls : Int) (s : Cr) (t : Po) : Cr :=
  if t.ph < 3 then { s with c := s.c + 1, pop := t }
  else if t.got = [] then { s with ph := 3, c := s.c + 1, pop := t, point := s.c + 1, code := 7 }
  else { s with ph := 1, c := s.c + 1, pop := t, point := s.c + 1, slot := t.got.getD 0 0 }
def crStep (hd lk n ra : Nat) (cls : Int) (l : List Int) (s : Cr) : Cr :=
  match s.ph with
  | 0 => crPopped cls s (poStep hd lk n l s.pop)
  | 1 => { s with ph := 2, c := s.c + 1, g := genN (l.getD (ra + s.slot.toNat) 0 / 4294967296), mark := 1, cl := cls, ofs := 0 }
  | 2 => { s with ph := 3, c := s.c + 1 }
  | _ => s
def crMem (hd ra : Nat) (l : List Int) (s : Cr) : List Int :=
  match s.ph with
  | 0 => poMem hd l s.pop
  | 2 => l.set (ra + s.slot.toNat) (rootI s.g s.mark s.cl s.ofs)
  | _ => l
def crCount (s : Cr) : Int := if s.ph < 3 then 1 else 0
structure CrOk (n : Nat) (s : Cr) : Prop where
  pop : PoInv n 800000 s.pop
  ph : s.ph = 0 → s.pop.ph < 3
  slot : s.ph = 1 ∨ s.ph = 2 → 0 ≤ s.slot ∧ s.slot < n
  c0 : 0 ≤ s.c
  c1 : s.c < 1000000
/-- Where the roots are. -/
structure RtAt (p k d sn cz b : Int) (ra n N : Nat) : Prop where
  at_ : ∀ i : Int, 0 ≤ i → i < n → crootI p k d sn cz b i = ((ra + i.toNat : Nat) : Int)
  bd : ra + n ≤ N
section
variable {w : World} {R m bb S N B : Nat} {l : List Int} {cc : Int} {x : Acc} {p k d sn cz b : Int} {y pg hd lk n ra : Nat} {cls : Int} {v : Value} {s : Cr}
theorem crStep_c (hg : CrRep w B y pg R S cls v s) (hR : Has w R (rootsOf m p k d sn cz b S) 109) (hS : Has w S (stackOf m hd lk n) 143) (M : Mem w m bb N l cc x) (L : StOk hd lk n N l) (A : RtAt p k d sn cz b ra n N) (H : CrOk n s) (hB : B ≤ w.heap.size) (hcc : cc < 4611686018427387903) :
    Calls Tryz.prog 29 #[.pointer (some ⟨y, 0, none⟩)] w fun e w' => ∃ v', e = .returned (.bool (decide (s.ph < 3))) ∧ Upd (y :: pg :: m :: bb :: ownB v) w w' ∧
      CrRep w' B y pg R S cls v' (crStep hd lk n ra cls l s) ∧ (∃ x', Mem w' m bb N (crMem hd ra l s) (cc + crCount s) x') ∧ (∀ z ∈ ownB v', z ∈ ownB v ∨ w.heap.size ≤ z) := by
  obtain ⟨ph, c, slot, point, g, mk, cl, ofs, code, pop⟩ := s
  obtain ⟨Hp, H1, H2, H3, H4⟩ := H
  obtain ⟨has, hp⟩ := hg
  dsimp only at *
  have nyR : R ≠ y := (Has.ne has hR (by decide)).symm
  have nyS : S ≠ y := (Has.ne has hS (by decide)).symm
  have nym : m ≠ y := (Has.ne has M.hg (by decide)).symm
  have nyb : bb ≠ y := (Has.ne has M.hb (by decide)).symm
  have nyp : pg ≠ y := Has.ne hp.has has (by decide)
  have nyv : ∀ z ∈ ownB v, z ≠ y := hp.row.ne has (by decide)
  have hl2 := L.len
  match ph, has, H1, H2 with
  | 0, has, H1, H2 =>
    have hp3 := H1 rfl
    have pc : poCount pop = 1 := if_pos hp3
    refine calls_ex (crStep_of (mstep5_c entr_crThrough has H3 (by omega) (fun w1 hu h1 => ?_)))
    have hp1 := hp.offx has hu
    have M1 := M.upd hu (by simp; exact nym) (by simp; exact nyb)
    have hn : y ∉ pg :: m :: bb :: ownB v := by
      simp only [List.mem_cons, not_or]
      exact ⟨nyp.symm, nym.symm, nyb.symm, fun h => nyv y h rfl⟩
    refine crThrough_c (hd := hd) (lk := lk) (n := n) (l := l) (m := m) (bb := bb) (N := N) (cc := cc) (v := v) (s := pop) (B := B) (S := S) h1 (poStep_c hp1 (hS.upd hu (by simp; exact nyS)) M1 L (Hp.ok (by omega)) (Nat.le_trans hB hu.size) hcc) hn (fun w2 v' hu2 h2 hp2 hM2 ho2 => ?_)
    have U12 : Upd (y :: pg :: m :: bb :: ownB v) w w2 := (hu.mono (by simp)).trans (hu2.mono (fun z hz => List.mem_cons_of_mem _ hz))
    have hsz := hu.size
    obtain ⟨x', M2⟩ := hM2
    rw [pc] at M2
    have ny2 : bb ≠ y := nyb
    have ho : ∀ z ∈ ownB v', z ∈ ownB v ∨ w.heap.size ≤ z := fun z hz => (ho2 z hz).imp id (fun h => Nat.le_trans hsz h)
    by_cases h3 : (poStep hd lk n l pop).ph < 3
    · have e1 : crPopped cls ⟨0, c, slot, point, g, mk, cl, ofs, code, pop⟩ (poStep hd lk n l pop) = ⟨0, c + 1, slot, point, g, mk, cl, ofs, code, poStep hd lk n l pop⟩ := if_pos h3
      refine (crOn_c (decide_eq_false (by omega)) h2 hp2).mono ?_
      rintro e w3 ⟨rfl, hu3, h3⟩
      refine ⟨rfl, v', U12.trans (hu3.mono (by simp)), ?_, ⟨x', M2.upd hu3 (by simp; exact nym) (by simp; exact nyb)⟩, ho⟩
      show CrRep _ _ _ _ _ _ _ _ (crPopped cls ⟨0, c, slot, point, g, mk, cl, ofs, code, pop⟩ (poStep hd lk n l pop))
      rw [e1]
      exact ⟨h3, hp2.offx h2 hu3⟩
    · by_cases h4 : (poStep hd lk n l pop).got = []
      · have e1 : crPopped cls ⟨0, c, slot, point, g, mk, cl, ofs, code, pop⟩ (poStep hd lk n l pop) = ⟨3, c + 1, slot, c + 1, g, mk, cl, ofs, 7, poStep hd lk n l pop⟩ := by unfold crPopped; rw [if_neg h3, if_pos h4]
        refine (crOn_done (decide_eq_true (by omega)) h2 hp2 (crPopped_none h2 hp2 (by omega) h4)).mono ?_
        rintro e w3 ⟨rfl, hu3, h5⟩
        refine ⟨rfl, v', U12.trans (hu3.mono (by simp)), ?_, ⟨x', M2.upd hu3 (by simp; exact nym) (by simp; exact nyb)⟩, ho⟩
        show CrRep _ _ _ _ _ _ _ _ (crPopped cls ⟨0, c, slot, point, g, mk, cl, ofs, code, pop⟩ (poStep hd lk n l pop))
        rw [e1]
        exact ⟨h5, hp2.offx h2 hu3⟩
      · have e1 : crPopped cls ⟨0, c, slot, point, g, mk, cl, ofs, code, pop⟩ (poStep hd lk n l pop) = ⟨1, c + 1, (poStep hd lk n l pop).got.getD 0 0, c + 1, g, mk, cl, ofs, code, poStep hd lk n l pop⟩ := by unfold crPopped; rw [if_neg h3, if_neg h4]
        obtain ⟨z, zs, hz⟩ := List.exists_cons_of_ne_nil h4
        have hst := Hp.step L
        have hlen2 : (poStep hd lk n l pop).got.length ≤ 1000000 := by
          have h1 := hst.len
          have h2 := hst.c1
          omega
        refine (crOn_done (decide_eq_true (by omega)) h2 hp2 (crPopped_some h2 hp2 (by omega) hz hlen2)).mono ?_
        rintro e w3 ⟨rfl, hu3, h5⟩
        refine ⟨rfl, v', U12.trans (hu3.mono (by simp)), ?_, ⟨x', M2.upd hu3 (by simp; exact nym) (by simp; exact nyb)⟩, ho⟩
        show CrRep _ _ _ _ _ _ _ _ (crPopped cls ⟨0, c, slot, point, g, mk, cl, ofs, code, pop⟩ (poStep hd lk n l pop))
        rw [e1, hz]
        exact ⟨h5, hp2.offx h2 hu3⟩
  | 1, has, H1, H2 =>
    obtain ⟨s0, s1⟩ := H2 (.inl rfl)
    have hat := A.at_ slot s0 s1
    have hlt : ra + slot.toNat < l.length := by have := A.bd; omega
    have hwd := L.words (l.getD (ra + slot.toNat) 0) (by rw [List.getD_eq_getElem?_getD, List.getElem?_eq_getElem hlt]; exact List.getElem_mem hlt)
    refine calls_ex (crStep_of (mstep5_c entr_crLoad has H3 (by omega) (fun w1 hu h1 => ?_)))
    have M1 := M.upd hu (by simp; exact nym) (by simp; exact nyb)
    refine (crLoad_c h1 (hR.upd hu (by simp; exact nyR)) M1 hat (getD_some hlt) hwd.1 hwd.2 hcc).mono ?_
    rintro e w2 ⟨rfl, hu2, h2, x', M2⟩
    have U3 : Upd [y, m, bb] w w2 := (hu.mono (by simp)).trans hu2
    refine ⟨rfl, v, U3.mono (fun z hz => by simp only [List.mem_cons, List.not_mem_nil, or_false] at hz ⊢; rcases hz with h | h | h <;> simp [h]), ⟨h2, hp.updT U3 ?_ ?_⟩, ⟨x', M2⟩, fun z hz => .inl hz⟩
    · simp only [List.mem_cons, List.not_mem_nil, or_false, not_or]; exact ⟨nyp, hp.has.ne M.hg (by decide), hp.has.ne M.hb (by decide)⟩
    · intro z hz; simp only [List.mem_cons, List.not_mem_nil, or_false, not_or]; exact ⟨nyv z hz, hp.row.ne M.hg (by decide) z hz, hp.row.ne M.hb (by decide) z hz⟩
  | 2, has, H1, H2 =>
    obtain ⟨s0, s1⟩ := H2 (.inr rfl)
    have hat := A.at_ slot s0 s1
    have hlt : ra + slot.toNat < l.length := by have := A.bd; omega
    refine calls_ex (crStep_of (mstep5_c entr_crStore has H3 (by omega) (fun w1 hu h1 => ?_)))
    have M1 := M.upd hu (by simp; exact nym) (by simp; exact nyb)
    refine (crStore_c h1 (hR.upd hu (by simp; exact nyR)) M1 hat (getD_some hlt) hcc).mono ?_
    rintro e w2 ⟨rfl, hu2, h2, x', M2⟩
    have U3 : Upd [y, m, bb] w w2 := (hu.mono (by simp)).trans hu2
    refine ⟨rfl, v, U3.mono (fun z hz => by simp only [List.mem_cons, List.not_mem_nil, or_false] at hz ⊢; rcases hz with h | h | h <;> simp [h]), ⟨h2, hp.updT U3 ?_ ?_⟩, ⟨x', M2⟩, fun z hz => .inl hz⟩
    · simp only [List.mem_cons, List.not_mem_nil, or_false, not_or]; exact ⟨nyp, hp.has.ne M.hg (by decide), hp.has.ne M.hb (by decide)⟩
    · intro z hz; simp only [List.mem_cons, List.not_mem_nil, or_false, not_or]; exact ⟨nyv z hz, hp.row.ne M.hg (by decide) z hz, hp.row.ne M.hb (by decide) z hz⟩
  | k + 3, has, H1, H2 =>
    refine calls_ex (crStep_of ((mstep5_nil has).mono ?_))
    rintro e w' ⟨rfl, rfl⟩
    refine ⟨by simp, v, Upd.refl _ _, ⟨has, hp⟩, ⟨x, ?_⟩, fun z hz => .inl hz⟩
    have e1 : crCount ⟨k + 3, c, slot, point, g, mk, cl, ofs, code, pop⟩ = 0 := by unfold crCount; rw [if_neg (show ¬ k + 3 < 3 by omega)]
    rw [e1]
    simpa [crMem] using M
end
end Go.Proofs.YtaecapjicphdkaaGreat
