/- The document's root of a slot, walked. -/
import Derived.Test.YtaecapjicphdkaaGreatMg32
import Derived.Test.YtaecapjicphdkaaGreatMg29
namespace Go.Proofs.YtaecapjicphdkaaGreat
set_option linter.unusedVariables false
set_option linter.unusedSimpArgs false
open Go Go.RowKit
set_option maxRecDepth 100000
attribute [local go_sem ↓] Go.wp_at_zero Go.wp_at_succ
set_option maxHeartbeats 8000000

section
variable {w : World} {W gg gb N T q : Nat} {l : List Int} {cc : Int} {p k d sn cz b : Int} {Pl Sp E : Value} {slot gen : Int} {s : En}
theorem rroot_c {o : Int} (hW : Has w W (rwOf p k d sn cz b gg Pl Sp E) 85) (M : RMem w gg gb N l cc) (hq : crootI p k d sn cz b slot = q) (ho : l[q]? = some o) (o0 : 0 ≤ o) (o1 : o < 18446744073709551616) :
    Calls Tryz.prog 109 #[.pointer (some ⟨W, 0, none⟩), .int .i64 slot] w fun e w' => e = .returned (rootV o) ∧ Keeps w w' := by
  have HQ := Lib.hid hq
  have hqN : q < N := by rw [← M.len]; exact get_lt ho
  have e1 : (u64s l)[q]? = some (.int .u64 o) := u64s_at ho
  have e2 := M.len
  clear hq ho
  have HG := M.hg
  have HBk := M.hb
  have hsz := hW.lt
  have hsm := M.small
  go_enter Tryz.func109, Tryz.ntmps109
  go_upto_region 1 with fail
  refine wp_named' (fun W1 hW1 => ?_)
  have HB : Has W1 w.heap.size #[.int .i64 0, .int .i64 0, .int .i64 0, .int .i64 0] 125 := by rw [hW1]; exact Has.new w _ _
  have K0 : Keeps w W1 := by rw [hW1]; ((repeat' (first | (with_reducible exact Keeps.refl _) | (with_reducible assumption) | (with_reducible refine Keeps.drewN ?_ _) | (with_reducible refine Keeps.drew ?_) | (with_reducible refine Keeps.alloc ?_ _) | (with_reducible refine Keeps.setCell ?_ ?_ _) | (with_reducible refine Keeps.trans ?_ (After.keeps _)) | (with_reducible refine Keeps.trans ?_ (by with_reducible assumption)) | go_size)); (first | done | fail))
  have HW := hW.keeps K0
  have HG := HG.keeps K0
  have HBk := HBk.keeps K0
  have nBW := Has.ne HB HW (by decide)
  have nBg := Has.ne HB HG (by decide)
  have nBb := Has.ne HB HBk (by decide)
  have nB1 := Ne.symm nBW
  have nB2 := Ne.symm nBg
  have nB3 := Ne.symm nBb
  have HK := Keeps.refl W1
  have hce := HBk.cellv e1
  clear hW1
  generalize hB : w.heap.size = B at *
  go_region_held3 (fun y => (((((((((y.cell? ⟨W, 0, none⟩ = some (.int .i64 p)) ∧ y.cell? ⟨W, 1, none⟩ = some (.int .i64 k)) ∧ y.cell? ⟨W, 2, none⟩ = some (.int .i64 d)) ∧ y.cell? ⟨W, 3, none⟩ = some (.int .i64 sn)) ∧ y.cell? ⟨W, 4, none⟩ = some (.int .i64 cz)) ∧ y.cell? ⟨W, 5, none⟩ = some (.int .i64 b)) ∧ y.cell? ⟨W, 6, none⟩ = some (.pointer (some ⟨gg, 0, none⟩))) ∧ y.cell? ⟨gg, 0, none⟩ = some (.slice (some ⟨gb, 0, none⟩) N N)) ∧ y.cell? ⟨gb, q, none⟩ = some (.int .u64 o))) (((repeat' (with_reducible apply And.intro)) <;> (apply Has.cellv; (focus ((repeat (first | (with_reducible assumption) | (with_reducible exact Has.new _ _ _) | (with_reducible exact Has.new1 _ _ _ _) | (with_reducible exact Has.new2 _ _ _ _ _) | (with_reducible refine Has.newAt ?_; (simp; done)) | (with_reducible apply Has.set) | (with_reducible apply Has.far; (case hn => first | assumption | (simp; done) | (intro e_; simp at e_; omega))) | (with_reducible apply Has.alloc) | (with_reducible apply Has.drewN) | (with_reducible apply Has.drew) | (with_reducible refine Has.keeps ?_ (by with_reducible assumption)))))); (first | (with_reducible assumption) | rfl | (simp; done) | fail))))
    (first
      | (go_at_call 101; refine (rcroot_c _ _ _ _ _ _ _ _).mono ?_; rintro e w' ⟨rfl, hk5⟩; rw [HQ.out]; have HW := (HW.keeps (by ((repeat' (first | (with_reducible exact Keeps.refl _) | (with_reducible assumption) | (with_reducible refine Keeps.drewN ?_ _) | (with_reducible refine Keeps.drew ?_) | (with_reducible refine Keeps.alloc ?_ _) | (with_reducible refine Keeps.setCell ?_ ?_ _) | (with_reducible refine Keeps.trans ?_ (After.keeps _)) | (with_reducible refine Keeps.trans ?_ (by with_reducible assumption)) | go_size)); (first | done | fail)))).keeps hk5; have HG := (HG.keeps (by ((repeat' (first | (with_reducible exact Keeps.refl _) | (with_reducible assumption) | (with_reducible refine Keeps.drewN ?_ _) | (with_reducible refine Keeps.drew ?_) | (with_reducible refine Keeps.alloc ?_ _) | (with_reducible refine Keeps.setCell ?_ ?_ _) | (with_reducible refine Keeps.trans ?_ (After.keeps _)) | (with_reducible refine Keeps.trans ?_ (by with_reducible assumption)) | go_size)); (first | done | fail)))).keeps hk5; have HBk := (HBk.keeps (by ((repeat' (first | (with_reducible exact Keeps.refl _) | (with_reducible assumption) | (with_reducible refine Keeps.drewN ?_ _) | (with_reducible refine Keeps.drew ?_) | (with_reducible refine Keeps.alloc ?_ _) | (with_reducible refine Keeps.setCell ?_ ?_ _) | (with_reducible refine Keeps.trans ?_ (After.keeps _)) | (with_reducible refine Keeps.trans ?_ (by with_reducible assumption)) | go_size)); (first | done | fail)))).keeps hk5; have HK := (HK.drew).trans hk5)
      | (go_at_call 99; refine (rgetRoot_c _ _ o0 o1).mono ?_; rintro e w' ⟨rfl, hk6⟩; have HW := HW.keeps hk6; have HG := HG.keeps hk6; have HBk := HBk.keeps hk6; have HK := HK.trans hk6; have HB := HB.keeps HK; have FX_ := (HB).facts; simp only [blockFacts, listFacts, cellsAt, Nat.reduceAdd, and_true, true_and, and_assoc] at FX_))
  all_goals go_wp2
  refine bodyPost_ret (v := rootV o) (by simp [results, Tryz.results109, go_sem, FX_]) rfl ?_
  exact ⟨rfl, (K0.trans HK).setCell (by rw [hB]; exact Nat.le_refl _) _ |>.setCell (by rw [hB]; exact Nat.le_refl _) _ |>.setCell (by rw [hB]; exact Nat.le_refl _) _ |>.setCell (by rw [hB]; exact Nat.le_refl _) _⟩
end
end Go.Proofs.YtaecapjicphdkaaGreat

/- The relation of RootsPlay: each worker's machine, the program's and the document's, side by side. -/
namespace Go.Proofs.YtaecapjicphdkaaGreat
set_option linter.unusedVariables false
set_option linter.unusedSimpArgs false
open Go Go.RowKit
set_option maxRecDepth 100000
set_option maxHeartbeats 1000000

theorem hownB_nodup (v : Value) : (ownB v).Nodup := by
  unfold ownB; cases v.ownBlock <;> simp
theorem hset_same {α : Type} {cs : List α} {i : Nat} {c : α} (h : cs[i]? = some c) : cs.set i c = cs := by
  obtain ⟨hi, e⟩ := List.getElem?_eq_some_iff.1 h
  rw [← e, List.set_getElem_self]
/-- A worker's machine. -/
inductive HMd where
  | no
  | cr (cls : Int) (s : Cr)
  | en (slot gen : Int) (s : En)
  | lk (slot gen : Int)
  | ld (slot gen code ofs : Int)
  | pu (s : Pu)
/-- The program's, in these blocks. -/
def HPRep (B R S : Nat) (w : World) (f : List Nat) : HMd → Prop
  | .no => f = []
  | .cr cls s => ∃ y pg v, f = y :: pg :: ownB v ∧ CrRep w B y pg R S cls v s
  | .en slot gen s => ∃ y, f = [y] ∧ EnRep w y R slot gen s
  | .lk slot gen => ∃ y, f = [y] ∧ Has w y (lookOf (bound 42 y) 0 R slot gen 0 0) 114
  | .ld slot gen code ofs => ∃ y, f = [y] ∧ Has w y (lookOf (nxt none y) 1 R slot gen code ofs) 114
  | .pu s => ∃ y v, f = y :: ownB v ∧ PuRep w B y S v s
/-- The document's. -/
def HRRep (B W Sp : Nat) (w : World) (f : List Nat) : HMd → Prop
  | .no => f = []
  | .cr cls s => ∃ y pg v, f = y :: pg :: ownB v ∧ RCrRep w B y pg W Sp cls v s
  | .en slot gen s => ∃ y, f = [y] ∧ REnRep w y W slot gen s
  | .lk slot gen => ∃ y, f = [y] ∧ Has w y (rlookOf W slot gen 0 0 false) 131
  | .ld slot gen code ofs => ∃ y, f = [y] ∧ Has w y (rlookOf W slot gen ofs code true) 131
  | .pu s => ∃ y v, f = y :: ownB v ∧ RPuRep w B y Sp v s
structure HLoc where
  p : List Nat
  x : List Nat
  h : Value
structure HWk where
  md : HMd
  r : HMd
  has : List Int
def HLoc.segs (c : HLoc) : List (List Nat) := [c.p, c.x, ownB c.h]
def HLoc.foot (c : HLoc) : List Nat := c.segs.flatten
theorem HLoc.foot_eq (c : HLoc) : c.foot = c.p ++ (c.x ++ ownB c.h) := by simp [HLoc.foot, HLoc.segs]
structure HkRep (B R S W Sp : Nat) (w : World) (c : HLoc) (q : HWk) : Prop where
  md : HPRep B R S w c.p q.md
  rmd : HRRep B W Sp w c.x q.r
  has : Row B 3 w c.h (ivals q.has)
def hplain (t : TypeId) : Bool := decide (t ≠ 140) && (decide (t ≠ 177) && (decide (t ≠ 3) && (decide (t ≠ 117) && (decide (t ≠ 114) && (decide (t ≠ 152) && (decide (t ≠ 127) && (decide (t ≠ 160) && (decide (t ≠ 129) && (decide (t ≠ 131) && decide (t ≠ 133))))))))))
section
variable {w w' : World} {B R S W Sp g : Nat} {v : Value} {T f : List Nat} {c : HLoc} {q : HWk} {md : HMd}
theorem PuRep.updH {s : Pu} (h : PuRep w B g S v s) (hu : Upd T w w') (h1 : g ∉ T) (h2 : ∀ y ∈ ownB v, y ∉ T) : PuRep w' B g S v s := ⟨h.has.upd hu h1, h.row.upd hu h2⟩
theorem RPuRep.updH {s : Pu} (h : RPuRep w B g S v s) (hu : Upd T w w') (h1 : g ∉ T) (h2 : ∀ y ∈ ownB v, y ∉ T) : RPuRep w' B g S v s := ⟨h.has.upd hu h1, h.row.upd hu h2⟩
theorem HPRep.upd (h : HPRep B R S w f md) (hu : Upd T w w') (hf : ∀ y ∈ f, y ∉ T) : HPRep B R S w' f md := by
  cases md with
  | no => exact h
  | cr cls s =>
    obtain ⟨y, pg, v, rfl, a, b⟩ := h
    exact ⟨y, pg, v, rfl, a.upd hu (hf y (by simp)), b.has.upd hu (hf pg (by simp)), b.row.upd hu (fun z hz => hf z (by simp [hz]))⟩
  | en slot gen s => obtain ⟨y, rfl, a⟩ := h; exact ⟨y, rfl, Has.upd a hu (hf y (by simp))⟩
  | lk slot gen => obtain ⟨y, rfl, a⟩ := h; exact ⟨y, rfl, a.upd hu (hf y (by simp))⟩
  | ld slot gen code ofs => obtain ⟨y, rfl, a⟩ := h; exact ⟨y, rfl, a.upd hu (hf y (by simp))⟩
  | pu s => obtain ⟨y, v, rfl, a⟩ := h; exact ⟨y, v, rfl, a.updH hu (hf y (by simp)) (fun z hz => hf z (by simp [hz]))⟩
theorem HRRep.upd (h : HRRep B W Sp w f md) (hu : Upd T w w') (hf : ∀ y ∈ f, y ∉ T) : HRRep B W Sp w' f md := by
  cases md with
  | no => exact h
  | cr cls s =>
    obtain ⟨y, pg, v, rfl, a⟩ := h
    exact ⟨y, pg, v, rfl, a.upd hu (hf y (by simp)) (hf pg (by simp)) (fun z hz => hf z (by simp [hz]))⟩
  | en slot gen s => obtain ⟨y, rfl, a⟩ := h; exact ⟨y, rfl, a.upd hu (hf y (by simp))⟩
  | lk slot gen => obtain ⟨y, rfl, a⟩ := h; exact ⟨y, rfl, a.upd hu (hf y (by simp))⟩
  | ld slot gen code ofs => obtain ⟨y, rfl, a⟩ := h; exact ⟨y, rfl, a.upd hu (hf y (by simp))⟩
  | pu s => obtain ⟨y, v, rfl, a⟩ := h; exact ⟨y, v, rfl, a.updH hu (hf y (by simp)) (fun z hz => hf z (by simp [hz]))⟩
theorem two_nodup {y pg : Nat} {v : Value} (h1 : y ≠ pg) (h2 : y ∉ ownB v) (h3 : pg ∉ ownB v) : (y :: pg :: ownB v).Nodup := by
  rw [List.nodup_cons, List.nodup_cons, List.mem_cons, not_or]
  exact ⟨⟨h1, h2⟩, h3, hownB_nodup v⟩
theorem HPRep.foot (h : HPRep B R S w f md) : f.Nodup ∧ ∀ y ∈ f, y < w.heap.size := by
  cases md with
  | no => obtain rfl := h; exact ⟨List.nodup_nil, by simp⟩
  | cr cls s =>
    obtain ⟨y, pg, v, rfl, a, b⟩ := h
    refine ⟨two_nodup (a.ne b.has (by decide)) (fun hm => b.row.ne a (by decide) _ hm rfl) (fun hm => b.row.ne b.has (by decide) _ hm rfl), fun z hz => ?_⟩
    simp only [List.mem_cons] at hz
    rcases hz with rfl | rfl | hz
    · exact a.lt
    · exact b.has.lt
    · exact (b.row.own z hz).2
  | en slot gen s => obtain ⟨y, rfl, a⟩ := h; exact ⟨by simp, fun z hz => by rw [List.mem_singleton.1 hz]; exact Has.lt a⟩
  | lk slot gen => obtain ⟨y, rfl, a⟩ := h; exact ⟨by simp, fun z hz => by rw [List.mem_singleton.1 hz]; exact Has.lt a⟩
  | ld slot gen code ofs => obtain ⟨y, rfl, a⟩ := h; exact ⟨by simp, fun z hz => by rw [List.mem_singleton.1 hz]; exact Has.lt a⟩
  | pu s =>
    obtain ⟨y, v, rfl, a⟩ := h
    refine ⟨List.nodup_cons.2 ⟨fun hm => a.row.ne a.has (by decide) _ hm rfl, hownB_nodup v⟩, fun z hz => ?_⟩
    simp only [List.mem_cons] at hz
    rcases hz with rfl | hz
    · exact a.has.lt
    · exact (a.row.own z hz).2
theorem HRRep.foot (h : HRRep B W Sp w f md) : f.Nodup ∧ ∀ y ∈ f, y < w.heap.size := by
  cases md with
  | no => obtain rfl := h; exact ⟨List.nodup_nil, by simp⟩
  | cr cls s =>
    obtain ⟨y, pg, v, rfl, a⟩ := h
    obtain ⟨cs, hc⟩ := a.hasT
    have b := a.pop
    refine ⟨two_nodup (hc.ne b.has (by decide)) (fun hm => b.row.ne hc (by decide) _ hm rfl) (fun hm => b.row.ne b.has (by decide) _ hm rfl), fun z hz => ?_⟩
    simp only [List.mem_cons] at hz
    rcases hz with rfl | rfl | hz
    · exact hc.lt
    · exact b.has.lt
    · exact (b.row.own z hz).2
  | en slot gen s => obtain ⟨y, rfl, x, a, -⟩ := h; exact ⟨by simp, fun z hz => by rw [List.mem_singleton.1 hz]; exact Has.lt a⟩
  | lk slot gen => obtain ⟨y, rfl, a⟩ := h; exact ⟨by simp, fun z hz => by rw [List.mem_singleton.1 hz]; exact Has.lt a⟩
  | ld slot gen code ofs => obtain ⟨y, rfl, a⟩ := h; exact ⟨by simp, fun z hz => by rw [List.mem_singleton.1 hz]; exact Has.lt a⟩
  | pu s =>
    obtain ⟨y, v, rfl, a⟩ := h
    refine ⟨List.nodup_cons.2 ⟨fun hm => a.row.ne a.has (by decide) _ hm rfl, hownB_nodup v⟩, fun z hz => ?_⟩
    simp only [List.mem_cons] at hz
    rcases hz with rfl | hz
    · exact a.has.lt
    · exact (a.row.own z hz).2
theorem HPRep.ne {cs : Array Value} {t : TypeId} (h : HPRep B R S w f md) (hg : Has w g cs t) (ht : hplain t = true) : g ∉ f := by
  simp only [hplain, Bool.and_eq_true, decide_eq_true_eq] at ht
  obtain ⟨t1, t2, t3, t4, t5, t6, t7, t8, t9, t10, t11⟩ := ht
  cases md with
  | no => obtain rfl := h; simp
  | cr cls s =>
    obtain ⟨y, pg, v, rfl, a, b⟩ := h
    simp only [List.mem_cons, not_or]
    exact ⟨Has.ne hg a t1, Has.ne hg b.has t2, fun hm => b.row.ne hg (Ne.symm t3) _ hm rfl⟩
  | en slot gen s => obtain ⟨y, rfl, a⟩ := h; simpa using Has.ne hg a t4
  | lk slot gen => obtain ⟨y, rfl, a⟩ := h; simpa using Has.ne hg a t5
  | ld slot gen code ofs => obtain ⟨y, rfl, a⟩ := h; simpa using Has.ne hg a t5
  | pu s =>
    obtain ⟨y, v, rfl, a⟩ := h
    simp only [List.mem_cons, not_or]
    exact ⟨Has.ne hg a.has t6, fun hm => a.row.ne hg (Ne.symm t3) _ hm rfl⟩
theorem HRRep.ne {cs : Array Value} {t : TypeId} (h : HRRep B W Sp w f md) (hg : Has w g cs t) (ht : hplain t = true) : g ∉ f := by
  simp only [hplain, Bool.and_eq_true, decide_eq_true_eq] at ht
  obtain ⟨t1, t2, t3, t4, t5, t6, t7, t8, t9, t10, t11⟩ := ht
  cases md with
  | no => obtain rfl := h; simp
  | cr cls s =>
    obtain ⟨y, pg, v, rfl, a⟩ := h
    obtain ⟨cs, hc⟩ := a.hasT
    have b := a.pop
    simp only [List.mem_cons, not_or]
    exact ⟨Has.ne hg hc t7, Has.ne hg b.has t8, fun hm => b.row.ne hg (Ne.symm t3) _ hm rfl⟩
  | en slot gen s => obtain ⟨y, rfl, x, a, -⟩ := h; simpa using Has.ne hg a t9
  | lk slot gen => obtain ⟨y, rfl, a⟩ := h; simpa using Has.ne hg a t10
  | ld slot gen code ofs => obtain ⟨y, rfl, a⟩ := h; simpa using Has.ne hg a t10
  | pu s =>
    obtain ⟨y, v, rfl, a⟩ := h
    simp only [List.mem_cons, not_or]
    exact ⟨Has.ne hg a.has t11, fun hm => a.row.ne hg (Ne.symm t3) _ hm rfl⟩
theorem HLoc.in_p {y : Nat} (h : y ∈ c.p) : y ∈ c.foot := by rw [c.foot_eq]; simp [h]
theorem HLoc.in_x {y : Nat} (h : y ∈ c.x) : y ∈ c.foot := by rw [c.foot_eq]; simp [h]
theorem HLoc.in_h {y : Nat} (h : y ∈ ownB c.h) : y ∈ c.foot := by rw [c.foot_eq]; simp [h]
theorem hkFrames (B R S W Sp : Nat) : Frames HLoc.foot (HkRep B R S W Sp) := by
  intro w w' T c k h hu hT
  exact ⟨h.md.upd hu (fun y hy => hT y (HLoc.in_p hy)), h.rmd.upd hu (fun y hy => hT y (HLoc.in_x hy)), h.has.upd hu (fun y hy => hT y (HLoc.in_h hy))⟩
theorem hfoot_ne {cs : Array Value} {t : TypeId} (h : HkRep B R S W Sp w c q) (hg : Has w g cs t) (ht : hplain t = true) : g ∉ c.foot := by
  have n1 := h.md.ne hg ht
  have n2 := h.rmd.ne hg ht
  simp only [hplain, Bool.and_eq_true, decide_eq_true_eq] at ht
  have n3 : g ∉ ownB c.h := fun hm => h.has.ne hg (Ne.symm ht.2.2.1) _ hm rfl
  rw [c.foot_eq]
  simp [n1, n2, n3]
end
/-- All that stands. -/
structure HA (w wr : World) (m b R S W g gb Sp hb n : Nat) (l l2 : List Int) (cc c2 : Int) (H : List Value) (cs : List HLoc) (ks : List HWk) : Prop where
  hR : Has wr R (rootsOf m 1 1 8 n 0 1 S) 109
  hS : Has wr S (stackOf m (1 : Nat) ((4 + n : Nat) : Int) n) 143
  hW : ∃ Pl E, Has wr W (rwOf 1 1 8 n 0 1 g Pl (.pointer (some ⟨Sp, 0, none⟩)) E) 85
  hSp : Has wr Sp (rstackOf g (1 : Nat) ((4 + n : Nat) : Int) n) 136
  mem : ∃ x, Mem wr m b (13 + 2 * n) l cc x
  rmem : RMem wr g gb (13 + 2 * n) l2 c2
  gang : Gang HLoc.foot (HkRep w.heap.size R S W Sp) wr w.heap.size cs ks
  hands : Has wr hb H.toArray 77
  hlen : H.length = 36
  bne : b ≠ gb
  keeps : Keeps w wr
  hm : w.heap.size ≤ m
  hbb : w.heap.size ≤ b
  hg : w.heap.size ≤ g
  hgb : w.heap.size ≤ gb
  hh : w.heap.size ≤ hb
section
variable {w wr w' : World} {m b R S W g gb Sp hb n : Nat} {l l2 l' l2' : List Int} {cc c2 cc' c2' : Int} {H : List Value} {cs : List HLoc} {ks : List HWk} {T : List Nat} {i t : Nat} {c c' : HLoc} {q q' : HWk}
theorem HA.later (h : HA w wr m b R S W g gb Sp hb n l l2 cc c2 H cs ks) (hk : Keeps wr w') : HA w w' m b R S W g gb Sp hb n l l2 cc c2 H cs ks := by
  obtain ⟨x, M⟩ := h.mem
  obtain ⟨Pl, E, hW⟩ := h.hW
  exact ⟨h.hR.keeps hk, h.hS.keeps hk, ⟨Pl, E, hW.keeps hk⟩, h.hSp.keeps hk, ⟨x, M.keeps hk⟩, h.rmem.keeps hk, h.gang.keeps (hkFrames _ _ _ _ _) hk, h.hands.keeps hk, h.hlen, h.bne, h.keeps.trans hk, h.hm, h.hbb, h.hg, h.hgb, h.hh⟩
theorem HA.out (h : HA w wr m b R S W g gb Sp hb n l l2 cc c2 H cs ks) {u : Nat} {xs : Array Value} {t : TypeId} (hu : Has wr u xs t) (ht : hplain t = true) : u ∉ (cs.map HLoc.foot).flatten :=
  h.gang.out (fun c k hr => hfoot_ne hr hu ht)
theorem HA.inn (hc : cs[i]? = some c) : ∀ y ∈ c.foot, y ∈ (cs.map HLoc.foot).flatten := fun y hy =>
  foot_mem (F := cs.map HLoc.foot) (i := i) (f := c.foot) (by simp [hc]) hy
/-- One of the workers turns, a memory with him. -/
theorem HA.turnM (h : HA w wr m b R S W g gb Sp hb n l l2 cc c2 H cs ks) (hc : cs[i]? = some c) (hk : ks[i]? = some q) (hu : Upd T wr w') (hT : ∀ y ∈ T, y ∈ c.foot ∨ (y = m ∨ y = b) ∨ (y = g ∨ y = gb))
    (hM : ∃ x, Mem w' m b (13 + 2 * n) l' cc' x) (hRM : RMem w' g gb (13 + 2 * n) l2' c2') (hr : HkRep w.heap.size R S W Sp w' c' q') (hn : c'.foot.Nodup) (hf : ∀ y ∈ c'.foot, (y ∈ c.foot ∨ wr.heap.size ≤ y) ∧ y < w'.heap.size) :
    HA w w' m b R S W g gb Sp hb n l' l2' cc' c2' H (cs.set i c') (ks.set i q') := by
  obtain ⟨x, M⟩ := h.mem
  obtain ⟨Pl, E, hW⟩ := h.hW
  have hin := HA.inn hc
  have o1 := h.out M.hg (by decide)
  have o2 := h.out M.hb (by decide)
  have o3 := h.out h.rmem.hg (by decide)
  have o4 := h.out h.rmem.hb (by decide)
  have key : ∀ {u : Nat} {xs : Array Value} {t : TypeId}, Has wr u xs t → hplain t = true → t ≠ 103 → t ≠ 99 → t ≠ 123 → u ∉ T := fun hq h1 h4 h5 h7 hy => by
    rcases hT _ hy with h6 | (h6 | h6) | (h6 | h6)
    · exact h.out hq h1 (hin _ h6)
    · subst h6; exact Has.ne hq M.hg h4 rfl
    · subst h6; exact Has.ne hq M.hb h5 rfl
    · subst h6; exact Has.ne hq h.rmem.hg h7 rfl
    · subst h6; exact Has.ne hq h.rmem.hb h5 rfl
  have own := h.gang.foot_own hc
  refine ⟨h.hR.upd hu (key h.hR (by decide) (by decide) (by decide) (by decide)), h.hS.upd hu (key h.hS (by decide) (by decide) (by decide) (by decide)), ⟨Pl, E, hW.upd hu (key hW (by decide) (by decide) (by decide) (by decide))⟩, h.hSp.upd hu (key h.hSp (by decide) (by decide) (by decide) (by decide)), hM, hRM, ?_, h.hands.upd hu (key h.hands (by decide) (by decide) (by decide) (by decide)), h.hlen, h.bne, h.keeps.upd hu (fun y hy => ?_), h.hm, h.hbb, h.hg, h.hgb, h.hh⟩
  · refine h.gang.turn (hkFrames _ _ _ _ _) hc hk hu (fun y hy hy2 hyT => ?_) hr hn hf h.keeps.size
    rcases hT y hyT with h6 | (h6 | h6) | (h6 | h6)
    · exact hy2 h6
    · subst h6; exact o1 hy
    · subst h6; exact o2 hy
    · subst h6; exact o3 hy
    · subst h6; exact o4 hy
  · rcases hT y hy with h6 | (h6 | h6) | (h6 | h6)
    · exact (own y h6).1
    · rw [h6]; exact h.hm
    · rw [h6]; exact h.hbb
    · rw [h6]; exact h.hg
    · rw [h6]; exact h.hgb
theorem HA.seg (h : HA w wr m b R S W g gb Sp hb n l l2 cc c2 H cs ks) (hc : cs[i]? = some c) (j : Nat) (f' : List Nat) {f : List Nat} (hj : c.segs[j]? = some f) (e : c'.foot = (c.segs.set j f').flatten) (hn : f'.Nodup) (hf : ∀ y ∈ f', (y ∈ f ∨ wr.heap.size ≤ y) ∧ y < w'.heap.size) (hsz0 : wr.heap.size ≤ w'.heap.size) :
    c'.foot.Nodup ∧ ∀ y ∈ c'.foot, (y ∈ c.foot ∨ wr.heap.size ≤ y) ∧ y < w'.heap.size := by
  have own := h.gang.foot_own hc
  rw [e]
  refine ⟨foot_set (F := c.segs) (h.gang.foot_nd hc) (fun y hy => (own y hy).2) hj hn (fun y hy => (hf y hy).1), fun y hy => ?_⟩
  rcases foot_set_mem hy with hy | hy
  · obtain ⟨h1 | h1, h2⟩ := hf y hy
    · exact ⟨.inl (foot_mem (F := c.segs) hj h1), h2⟩
    · exact ⟨.inr h1, h2⟩
  · have := own y hy
    exact ⟨.inl hy, by omega⟩
theorem HA.apart (h : HA w wr m b R S W g gb Sp hb n l l2 cc c2 H cs ks) (hc : cs[i]? = some c) (j1 j2 : Nat) {f1 f2 : List Nat} (h1 : c.segs[j1]? = some f1) (h2 : c.segs[j2]? = some f2) (hn : j2 ≠ j1) : ∀ y ∈ f2, y ∉ f1 :=
  foot_apart (F := c.segs) (h.gang.foot_nd hc) h1 h2 hn
theorem HA.memout (h : HA w wr m b R S W g gb Sp hb n l l2 cc c2 H cs ks) (hc : cs[i]? = some c) : ∀ y ∈ c.foot, y ≠ m ∧ y ≠ b ∧ y ≠ g ∧ y ≠ gb := fun y hy => by
  obtain ⟨x, M⟩ := h.mem
  have hin := HA.inn hc y hy
  exact ⟨fun e => h.out M.hg (by decide) (e ▸ hin), fun e => h.out M.hb (by decide) (e ▸ hin), fun e => h.out h.rmem.hg (by decide) (e ▸ hin), fun e => h.out h.rmem.hb (by decide) (e ▸ hin)⟩
theorem HA.memne (h : HA w wr m b R S W g gb Sp hb n l l2 cc c2 H cs ks) : m ≠ g ∧ m ≠ gb ∧ b ≠ g ∧ b ≠ gb := by
  obtain ⟨x, M⟩ := h.mem
  exact ⟨M.hg.ne h.rmem.hg (by decide), M.hg.ne h.rmem.hb (by decide), M.hb.ne h.rmem.hg (by decide), h.bne⟩
/-- His machine of the program's turns. -/
theorem HA.stepP {f : List Nat} {md : HMd} (h : HA w wr m b R S W g gb Sp hb n l l2 cc c2 H cs ks) (hc : cs[i]? = some c) (hk : ks[i]? = some q) (hu : Upd T wr w') (hT : ∀ y ∈ T, y = m ∨ y = b ∨ y ∈ c.p) (hM : ∃ x, Mem w' m b (13 + 2 * n) l' cc' x)
    (hr : HPRep w.heap.size R S w' f md) (hs : ∀ y ∈ f, y ∈ c.p ∨ wr.heap.size ≤ y) : HA w w' m b R S W g gb Sp hb n l' l2 cc' c2 H (cs.set i { c with p := f }) (ks.set i { q with md := md }) := by
  have mo := h.memout hc
  obtain ⟨n1, n2, n3, n4⟩ := h.memne
  obtain ⟨_, rmd, rh⟩ := h.gang.rep i c q hc hk
  have ft := hr.foot
  obtain ⟨q1, q2⟩ := h.seg (w' := w') (c' := { c with p := f }) hc 0 f rfl rfl ft.1 (fun y hy => ⟨hs y hy, ft.2 y hy⟩) hu.size
  have nT : ∀ y ∈ c.foot, y ∉ c.p → y ∉ T := fun y hy hp hyT => by
    rcases hT y hyT with h6 | h6 | h6
    · exact (mo y hy).1 h6
    · exact (mo y hy).2.1 h6
    · exact hp h6
  refine h.turnM hc hk hu (fun y hy => ?_) hM (h.rmem.upd hu (fun hy => ?_) (fun hy => ?_)) ⟨hr, rmd.upd hu (fun y hy => nT y (HLoc.in_x hy) (h.apart hc 0 1 rfl rfl (by decide) y hy)), rh.upd hu (fun y hy => nT y (HLoc.in_h hy) (h.apart hc 0 2 rfl rfl (by decide) y hy))⟩ q1 q2
  · rcases hT y hy with h6 | h6 | h6
    · exact .inr (.inl (.inl h6))
    · exact .inr (.inl (.inr h6))
    · exact .inl (HLoc.in_p h6)
  · rcases hT g hy with h6 | h6 | h6
    · exact n1 h6.symm
    · exact n3 h6.symm
    · exact (mo g (HLoc.in_p h6)).2.2.1 rfl
  · rcases hT gb hy with h6 | h6 | h6
    · exact n2 h6.symm
    · exact n4 h6.symm
    · exact (mo gb (HLoc.in_p h6)).2.2.2 rfl
/-- His machine of the document's turns. -/
theorem HA.stepR {f : List Nat} {md : HMd} (h : HA w wr m b R S W g gb Sp hb n l l2 cc c2 H cs ks) (hc : cs[i]? = some c) (hk : ks[i]? = some q) (hu : Upd T wr w') (hT : ∀ y ∈ T, y = g ∨ y = gb ∨ y ∈ c.x) (hM : RMem w' g gb (13 + 2 * n) l2' c2')
    (hr : HRRep w.heap.size W Sp w' f md) (hs : ∀ y ∈ f, y ∈ c.x ∨ wr.heap.size ≤ y) : HA w w' m b R S W g gb Sp hb n l l2' cc c2' H (cs.set i { c with x := f }) (ks.set i { q with r := md }) := by
  obtain ⟨x, M⟩ := h.mem
  have mo := h.memout hc
  obtain ⟨n1, n2, n3, n4⟩ := h.memne
  obtain ⟨pmd, _, rh⟩ := h.gang.rep i c q hc hk
  have ft := hr.foot
  obtain ⟨q1, q2⟩ := h.seg (w' := w') (c' := { c with x := f }) hc 1 f rfl rfl ft.1 (fun y hy => ⟨hs y hy, ft.2 y hy⟩) hu.size
  have nT : ∀ y ∈ c.foot, y ∉ c.x → y ∉ T := fun y hy hp hyT => by
    rcases hT y hyT with h6 | h6 | h6
    · exact (mo y hy).2.2.1 h6
    · exact (mo y hy).2.2.2 h6
    · exact hp h6
  refine h.turnM hc hk hu (fun y hy => ?_) ⟨x, M.upd hu (fun hy => ?_) (fun hy => ?_)⟩ hM ⟨pmd.upd hu (fun y hy => nT y (HLoc.in_p hy) (h.apart hc 1 0 rfl rfl (by decide) y hy)), hr, rh.upd hu (fun y hy => nT y (HLoc.in_h hy) (h.apart hc 1 2 rfl rfl (by decide) y hy))⟩ q1 q2
  · rcases hT y hy with h6 | h6 | h6
    · exact .inr (.inr (.inl h6))
    · exact .inr (.inr (.inr h6))
    · exact .inl (HLoc.in_x h6)
  · rcases hT m hy with h6 | h6 | h6
    · exact n1 h6
    · exact n2 h6
    · exact (mo m (HLoc.in_x h6)).1 rfl
  · rcases hT b hy with h6 | h6 | h6
    · exact n3 h6
    · exact n4 h6
    · exact (mo b (HLoc.in_x h6)).2.1 rfl
/-- What he has turns. -/
theorem HA.stepH {v : Value} {zs : List Int} (h : HA w wr m b R S W g gb Sp hb n l l2 cc c2 H cs ks) (hc : cs[i]? = some c) (hk : ks[i]? = some q) (hu : Upd T wr w') (hT : ∀ y ∈ T, y ∈ ownB c.h)
    (hr : Row w.heap.size 3 w' v (ivals zs)) (hs : ∀ y ∈ ownB v, y ∈ ownB c.h ∨ wr.heap.size ≤ y) : HA w w' m b R S W g gb Sp hb n l l2 cc c2 H (cs.set i { c with h := v }) (ks.set i { q with has := zs }) := by
  obtain ⟨x, M⟩ := h.mem
  have mo := h.memout hc
  obtain ⟨pmd, rmd, _⟩ := h.gang.rep i c q hc hk
  obtain ⟨q1, q2⟩ := h.seg (w' := w') (c' := { c with h := v }) hc 2 (ownB v) rfl rfl (hownB_nodup v) (fun y hy => ⟨hs y hy, (hr.own y hy).2⟩) hu.size
  have nT : ∀ y ∈ c.foot, y ∉ ownB c.h → y ∉ T := fun y hy hp hyT => hp (hT y hyT)
  refine h.turnM hc hk hu (fun y hy => .inl (HLoc.in_h (hT y hy))) ⟨x, M.upd hu (fun hy => (mo m (HLoc.in_h (hT m hy))).1 rfl) (fun hy => (mo b (HLoc.in_h (hT b hy))).2.1 rfl)⟩ (h.rmem.upd hu (fun hy => (mo g (HLoc.in_h (hT g hy))).2.2.1 rfl) (fun hy => (mo gb (HLoc.in_h (hT gb hy))).2.2.2 rfl)) ⟨pmd.upd hu (fun y hy => nT y (HLoc.in_p hy) (h.apart hc 2 0 rfl rfl (by decide) y hy)), rmd.upd hu (fun y hy => nT y (HLoc.in_x hy) (h.apart hc 2 1 rfl rfl (by decide) y hy)), hr⟩ q1 q2
/-- A cell of hands turns. -/
theorem HA.cell (h : HA w wr m b R S W g gb Sp hb n l l2 cc c2 H cs ks) (j : Nat) (x : Value) :
    HA w (wr.setCell ⟨hb, j, none⟩ x) m b R S W g gb Sp hb n l l2 cc c2 (H.set j x) cs ks := by
  obtain ⟨y, M⟩ := h.mem
  obtain ⟨Pl, E, hW⟩ := h.hW
  have hu : Upd [hb] wr (wr.setCell ⟨hb, j, none⟩ x) := (Upd.refl _ _).setCell (.inl (by simp)) _
  have o1 := h.out h.hands (by decide)
  exact ⟨h.hR.upd hu (by simpa using h.hR.ne h.hands (by decide)), h.hS.upd hu (by simpa using h.hS.ne h.hands (by decide)), ⟨Pl, E, hW.upd hu (by simpa using hW.ne h.hands (by decide))⟩, h.hSp.upd hu (by simpa using h.hSp.ne h.hands (by decide)), ⟨y, M.upd hu (by simpa using M.hg.ne h.hands (by decide)) (by simpa using M.hb.ne h.hands (by decide))⟩, h.rmem.upd hu (by simpa using h.rmem.hg.ne h.hands (by decide)) (by simpa using h.rmem.hb.ne h.hands (by decide)),
    h.gang.upd (hkFrames _ _ _ _ _) hu (fun z hz => by simp; rintro rfl; exact o1 hz), (h.hands.set j x).congr (by simp), by simpa using h.hlen, h.bne, h.keeps.setCell h.hh _, h.hm, h.hbb, h.hg, h.hgb, h.hh⟩
end
end Go.Proofs.YtaecapjicphdkaaGreat
