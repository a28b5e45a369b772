/- append of ints onto a slice of the call's own, whatever the source is; flags. -/
import Derived.Test.YtaecapjicphdkaaGreatMg05
import Derived.Maps.AppendAt
import Derived.Laws.AppendOwnNone
import Derived.Test.YtaecapjicphdkaaGreatMg01
import Derived.Laws.EntriesVeiled
import Derived.Test.YtaecapjicphdkaaGreatMg04
import Derived.Deep.RegionHeld3
import Derived.Deep.DrawnRows
namespace Go.Proofs.YtaecapjicphdkaaGreat
set_option linter.unusedVariables false
set_option linter.unusedSimpArgs false
open Go Go.RowKit
set_option maxRecDepth 100000

/-- A slice of ints to be appended: nil, or cells that lie there. -/
def Src (w : World) (y : Value) (ys : List Int) : Prop :=
  (y = .slice none 0 0 ∧ ys = []) ∨ ∃ ad c, y = .slice (some ad) ys.length c ∧ ∀ (j : Nat) z, ys[j]? = some z → w.cell? (ad.add j) = some (.int .i64 z)
theorem addr_add (b o j : Nat) : (⟨b, o, none⟩ : Addr).add j = ⟨b, o + j, none⟩ := by unfold Addr.add; split <;> simp_all
section
variable {B : Nat} {w : World} {v : Value} {xs ys : List Int}
theorem Src.nil (w : World) : Src w (.slice none 0 0) [] := .inl ⟨rfl, rfl⟩
theorem Row.capLe {a : Option Addr} {n cap : Nat} (h : Row B 3 w (.slice a n cap) (ivals xs)) : n ≤ cap := by
  obtain ⟨hl, ⟨hv, hn⟩ | ⟨g, cap', cur, hv, hB, hg, h1, h2, h3, h4⟩⟩ := h
  · cases hv; exact Nat.le_refl _
  · cases hv; exact h1
theorem Row.src (h : Row B 3 w v (ivals xs)) : Src w v xs := by
  obtain ⟨hl, ⟨rfl, hn⟩ | ⟨g, cap, cur, rfl, hB, hg, h1, h2, h3, h4⟩⟩ := h
  · exact .inl ⟨rfl, List.length_eq_zero_iff.1 (by simpa using hn)⟩
  · refine .inr ⟨⟨g, 0, none⟩, cap, by simp, fun j z hj => ?_⟩
    have hj2 : j < xs.length := (List.getElem?_eq_some_iff.1 hj).1
    have hk : (ivals xs)[j]? = some (.int .i64 z) := by simp [hj]
    rw [← h4, List.getElem?_take_of_lt (by simpa using hj2)] at hk
    rw [addr_add, Nat.zero_add]
    simp [World.cell?, hg]
    simpa using hk
theorem Has.src {b : Nat} {z : Int} (h : Has w b #[.int .i64 z] 3) (c : Nat) : Src w (.slice (some ⟨b, 0, none⟩) 1 c) [z] :=
  .inr ⟨⟨b, 0, none⟩, c, rfl, fun j y hj => news_one h j _ (by cases j with | zero => simp at hj ⊢; exact hj | succ j => simp at hj)⟩
theorem wpList_append_ints {ops : Array Oper} {rest : List Oper} {o : Oper} {a : Act} {Q : Exit → Act → World → Prop} (hgd : o.guard = none) (s x : Operand)
    (ho : o.op = .call { callee := .builtin .append, args := #[s, x], argTypes := #[49, 49] })
    (y : Value) (hs : a.eval s = v) (hx : a.eval x = y) (hown : Row B 3 w v (ivals xs)) (hsrc : Src w y ys) (hlen : xs.length + ys.length ≤ 1000000) (hB : B ≤ w.heap.size)
    (h : ∀ v' w', Row B 3 w' v' (ivals (xs ++ ys)) → Upd (ownB v) w w' → (∀ z ∈ ownB v', z ∈ ownB v ∨ z = w.heap.size) → wpList Tryz.prog ops Q rest (a.put o.dst v') w') : wpList Tryz.prog ops Q (o :: rest) a w := by
  obtain ⟨i0, hi, hz0, hz1, hz2⟩ := info_parts info_int
  rcases hsrc with ⟨rfl, rfl⟩ | ⟨ad, c, rfl, hc⟩
  · refine wpList_append_own_none hgd s x 49 ho B 3 i0 1 Tryz.underlying49 hi v _ _ hs hown hx ?_
    exact h v w (by rw [List.append_nil]; exact hown) (Upd.refl _ _) (fun z hz => .inl hz)
  · refine wpList_append_own_at w hgd s x 49 ho B 3 i0 _ 1 8 Tryz.underlying49 hi hz0 hz1 hz2 rfl (by decide) v _ _ hs hown ad ys.length c (ivals ys) hx (by simp) (fun j u hj => ?_) (ivals_one ys) (by simp only [ivals, List.length_map]; unfold maxLen; omega) (by simp only [ivals, List.length_map]; omega) hB ?_
    · have hj2 : j < ys.length := by have := (List.getElem?_eq_some_iff.1 hj).1; simpa using this
      simp only [ivals, List.getElem?_map, List.getElem?_eq_getElem hj2, Option.map_some, Option.some.injEq] at hj
      rw [hc j ys[j] (List.getElem?_eq_getElem hj2), hj]
    · intro v' w' h1 h2 _ h4
      refine h v' w' ?_ (Upd.grown h2) (fun z hz => ?_)
      · unfold Row
        have e : ivals (xs ++ ys) = ivals xs ++ ivals ys := by simp [ivals]
        rw [e, List.length_append, show (ivals ys).length = ys.length by simp]
        exact h1
      · rcases h4 with h4 | h4
        · exact .inl (by unfold ownB at hz ⊢; rw [h4] at hz; exact hz)
        · right; unfold ownB at hz; rw [h4] at hz; simpa using hz
/-- The same under a guard that is met. -/
theorem wpList_append_intsG {ops : Array Oper} {rest : List Oper} {o : Oper} {a : Act} {Q : Exit → Act → World → Prop} (hgd : Region.wanted o (yielded ops a.tmps) = true) (s x : Operand)
    (ho : o.op = .call { callee := .builtin .append, args := #[s, x], argTypes := #[49, 49] })
    (y : Value) (hs : a.eval s = v) (hx : a.eval x = y) (hown : Row B 3 w v (ivals xs)) (hsrc : Src w y ys) (hlen : xs.length + ys.length ≤ 1000000) (hB : B ≤ w.heap.size)
    (h : ∀ v' w', Row B 3 w' v' (ivals (xs ++ ys)) → Upd (ownB v) w w' → (∀ z ∈ ownB v', z ∈ ownB v ∨ z = w.heap.size) → wpList Tryz.prog ops Q rest (a.put o.dst v') w') : wpList Tryz.prog ops Q (o :: rest) a w := by
  obtain ⟨i0, hi, hz0, hz1, hz2⟩ := info_parts info_int
  refine wpList_step fun K hK => ?_
  rw [if_pos hgd]
  rcases hsrc with ⟨rfl, rfl⟩ | ⟨ad, c, rfl, hc⟩
  · have hrun := run_append_owned_none (P := Tryz.prog) (w := w) B 49 o.type 3 i0 1 Tryz.underlying49 hi v _ _ hown
    unfold Oper.wp
    simp [execOp, ho, resolve, invoke, builtin, hs, hx, hrun, Result.andThen]
    exact hK _ _ (h v w (by rw [List.append_nil]; exact hown) (Upd.refl _ _) (fun z hz => .inl hz))
  · have hnews : ∀ (j : Nat) u, (ivals ys)[j]? = some u → w.cell? (ad.add j) = some u := fun j u hj => by
      have hj2 : j < ys.length := by have := (List.getElem?_eq_some_iff.1 hj).1; simpa using this
      simp only [ivals, List.getElem?_map, List.getElem?_eq_getElem hj2, Option.map_some, Option.some.injEq] at hj
      rw [hc j ys[j] (List.getElem?_eq_getElem hj2), hj]
    obtain ⟨v', w', hr, h1, h2, _, h4⟩ := run_append_own_at (P := Tryz.prog) w B 49 o.type 3 i0 _ 1 8 Tryz.underlying49 hi hz0 hz1 hz2 rfl (by decide) v _ _ hown ad ys.length c (ivals ys) (by simp) hnews (ivals_one ys) (by simp only [ivals, List.length_map]; unfold maxLen; omega) (by simp only [ivals, List.length_map]; omega) hB
    unfold Oper.wp execOp
    simp only [ho, resolve, invoke, builtin, Sem.run_bind, Sem.run_pure, Result.andThen_ok, List.map_toArray, List.map_cons, List.map_nil, hs, hx, hr]
    refine hK _ _ (h v' w' ?_ (Upd.grown h2) (fun z hz => ?_))
    · unfold Row
      have e : ivals (xs ++ ys) = ivals xs ++ ivals ys := by simp [ivals]
      rw [e, List.length_append, show (ivals ys).length = ys.length by simp]
      exact h1
    · rcases h4 with h4 | h4
      · exact .inl (by unfold ownB at hz ⊢; rw [h4] at hz; exact hz)
      · right; unfold ownB at hz; rw [h4] at hz; simpa using hz
end
/-- Which of 0 to n less 1 stand in a list. -/
def flags (n : Nat) (L : List Int) : Array Value := ((List.range n).map fun (z : Nat) => Value.bool (decide ((z : Int) ∈ L))).toArray
theorem flags_at {n z : Nat} {L : List Int} (h : z < n) : (flags n L)[z]? = some (.bool (decide ((z : Int) ∈ L))) := by
  simp [flags, List.getElem?_range h]
theorem flags_nil (n : Nat) : flags n [] = Array.replicate n (.bool false) := by
  unfold flags
  simp only [List.not_mem_nil, decide_false]
  refine Array.ext (by simp) fun i h1 h2 => by simp
theorem flags_set {n z : Nat} {L : List Int} (h : z < n) : (flags n L).setIfInBounds z (.bool true) = flags n ((z : Int) :: L) := by
  unfold flags
  refine Array.ext (by simp) fun i h1 h2 => ?_
  simp only [Array.size_setIfInBounds, List.size_toArray, List.length_map, List.length_range] at h1
  simp only [Array.getElem_setIfInBounds, List.getElem_toArray, List.getElem_map, List.getElem_range, List.mem_cons]
  by_cases hiz : z = i
  · subst hiz; simp
  · simp [hiz]
    have : ¬ ((i : Int) = (z : Int)) := by omega
    simp [this]
theorem info_bool : (Tryz.prog.info? 4).map (fun i => (i.zero, i.size, i.bytes)) = some (some (.bool false), 1, 1) := by kernel_rfl
/-- A slice of ints that lies somewhere in a block of ints. -/
def CutI (w : World) (v : Value) (L : List Int) : Prop :=
  ∃ a cap, v = .slice a L.length cap ∧ L.length ≤ cap ∧ (L ≠ [] → ∃ g off cur, a = some ⟨g, off, none⟩ ∧ Has w g cur 3 ∧ ∀ (i : Nat) z, L[i]? = some z → cur[off + i]? = some (.int .i64 z))
section
variable {w w' : World} {v : Value} {L : List Int} {B : Nat} {S : List Nat}
theorem Row.cut (h : Row B 3 w v (ivals L)) : CutI w v L := by
  obtain ⟨hl, ⟨rfl, hn⟩ | ⟨g, cap, cur, rfl, hB, hg, h1, h2, h3, h4⟩⟩ := h
  · have e : L = [] := List.length_eq_zero_iff.1 (by simpa using hn)
    subst e
    exact ⟨none, 0, rfl, Nat.le_refl _, fun h => absurd rfl h⟩
  · refine ⟨some ⟨g, 0, none⟩, cap, by simp, by simpa using h1, fun _ => ⟨g, 0, cur, rfl, hg, fun i z hi => ?_⟩⟩
    have hi2 : i < L.length := (List.getElem?_eq_some_iff.1 hi).1
    have hk : (ivals L)[i]? = some (.int .i64 z) := by simp [hi]
    rw [← h4, List.getElem?_take_of_lt (by simpa using hi2)] at hk
    rw [Nat.zero_add]
    simpa using hk
theorem CutI.reads (h : CutI w v L) : Reads .i64 w v L := by
  obtain ⟨a, cap, rfl, _, h⟩ := h
  refine ⟨a, cap, rfl, fun hz => ?_⟩
  obtain ⟨g, off, cur, rfl, hg, hc⟩ := h hz
  exact ⟨g, off, rfl, hg.lt, fun i z hi => (hg.cell _).trans (hc i z hi)⟩
theorem CutI.upd (h : CutI w v L) (hu : Upd S w w') (hS : ∀ g cur, Has w g cur 3 → g ∉ S) : CutI w' v L := by
  obtain ⟨a, cap, rfl, hc, h⟩ := h
  refine ⟨a, cap, rfl, hc, fun hz => ?_⟩
  obtain ⟨g, off, cur, rfl, hg, hc⟩ := h hz
  exact ⟨g, off, cur, rfl, hg.upd hu (hS g cur hg), hc⟩
theorem CutI.keeps (h : CutI w v L) (hk : Keeps w w') : CutI w' v L := h.upd (Upd.of_keeps (S := []) hk) (fun _ _ _ => by simp)
theorem CutI.take {a : Option Addr} {cap : Nat} (h : CutI w (.slice a L.length cap) L) {k : Nat} (hk : k ≤ L.length) : CutI w (.slice a k cap) (L.take k) := by
  obtain ⟨a', cap', hv, hc, h⟩ := h
  cases hv
  refine ⟨a, cap, by simp [Nat.min_eq_left hk], by simp; omega, fun hz => ?_⟩
  obtain ⟨g, off, cur, ha, hg, hcc⟩ := h (by rintro rfl; simp at hz)
  refine ⟨g, off, cur, ha, hg, fun i z hi => ?_⟩
  rw [List.getElem?_take] at hi
  split at hi
  · exact hcc i z hi
  · cases hi
theorem CutI.drop {g off cap : Nat} (h : CutI w (.slice (some ⟨g, off, none⟩) L.length cap) L) {k : Nat} (hk : k ≤ L.length) (a : Option Addr) (ha : k < L.length → a = some ⟨g, off + k, none⟩) : CutI w (.slice a (L.length - k) (cap - k)) (L.drop k) := by
  obtain ⟨a', cap', hv, hc, h⟩ := h
  cases hv
  refine ⟨a, cap - k, by simp, by simp; omega, fun hz => ?_⟩
  have hk2 : k < L.length := by
    rcases Nat.lt_or_ge k L.length with h1 | h1
    · exact h1
    · exact absurd (List.drop_eq_nil_of_le h1) hz
  obtain ⟨g', off', cur, ha', hg, hcc⟩ := h (by rintro rfl; simp at hk2)
  cases ha'
  refine ⟨g, off + k, cur, ha hk2, hg, fun i z hi => ?_⟩
  rw [List.getElem?_drop] at hi
  rw [Nat.add_assoc]
  exact hcc _ z hi
theorem CutI.nil (w : World) (a : Option Addr) {n : Nat} (c : Nat) (h : n = 0) : CutI w (.slice a n c) [] := by
  subst h
  exact ⟨a, c, rfl, Nat.zero_le _, fun h => absurd rfl h⟩
theorem Row.one {b : Nat} {z : Int} (h : Has w b #[.int .i64 z] 3) (hB : B ≤ b) : Row B 3 w (.slice (some ⟨b, 0, none⟩) 1 1) (ivals [z]) :=
  ⟨rfl, .inr ⟨b, 1, #[.int .i64 z], rfl, hB, h, Nat.le_refl _, by unfold maxLen; decide, rfl, rfl⟩⟩
theorem reads_one {b : Nat} {z : Int} (h : Has w b #[.int .i64 z] 3) (c : Nat) : Reads .i64 w (.slice (some ⟨b, 0, none⟩) 1 c) [z] :=
  ⟨some ⟨b, 0, none⟩, c, rfl, fun _ => ⟨b, 0, rfl, h.lt, fun i y hi => by
    cases i with
    | zero => simp at hi; subst hi; exact h.cell 0
    | succ i => simp at hi⟩⟩
theorem reads_two {b : Nat} {y z : Int} (h : Has w b #[.int .i64 y, .int .i64 z] 3) (c : Nat) : Reads .i64 w (.slice (some ⟨b, 0, none⟩) 2 c) [y, z] :=
  ⟨some ⟨b, 0, none⟩, c, rfl, fun _ => ⟨b, 0, rfl, h.lt, fun i u hi => by
    match i with
    | 0 => simp at hi; subst hi; exact h.cell 0
    | 1 => simp at hi; subst hi; exact h.cell 1
    | i + 2 => simp at hi⟩⟩
end
end Go.Proofs.YtaecapjicphdkaaGreat

/- Machines of package run: their Step, Done, Count, Go, whatever comes next. -/
namespace Go.Proofs.YtaecapjicphdkaaGreat
set_option linter.unusedVariables false
set_option linter.unusedSimpArgs false
open Go Go.RowKit
set_option maxRecDepth 100000

@[go_sem] theorem func_nil (f : Fn) (xs ys : Array Value) (w : World) : Sem.run Tryz.prog (binOp .eql 1 (.func f xs ys) .nilFunc) w = .ok (.bool false) w := by rfl
@[go_sem] theorem nil_nil (w : World) : Sem.run Tryz.prog (binOp .eql 1 .nilFunc .nilFunc) w = .ok (.bool true) w := by rfl
/-- A bound method. -/
@[reducible] def bound (f : Nat) (g : Nat) : Value := .func (.func f) #[.pointer (some ⟨g, 0, none⟩)] #[]
/-- What comes next. -/
def nxt (o : Option Nat) (g : Nat) : Value := match o with
  | none => .nilFunc
  | some f => bound f g
@[simp] theorem nxt_none (g : Nat) : nxt none g = .nilFunc := rfl
@[simp] theorem nxt_some (f g : Nat) : nxt (some f) g = bound f g := rfl
/-- A machine's first cells: what comes next, how many accesses there were. -/
abbrev mach (nx : Value) (c : Int) (rest : List Value) : Array Value := (nx :: .nilFunc :: .nilFunc :: .nilFunc :: .int .i64 c :: rest).toArray
/-- A function of the program that has a body. -/
def Entr (f : Nat) : Prop := ∀ (args : Array Value) (w : World), (callFunc f args).run Tryz.prog w = .ok (.enter f args) w
section
variable {f g : Nat} {c : Int} {rest : List Value} {T : TypeId} {w : World} {Q : World → Prop} {o : Option Nat}

theorem mstep_c (hf : Entr f) (hg : Has w g (mach (bound f g) c rest) T) (h0 : 0 ≤ c) (h1 : c < 1000000000)
    (h : ∀ w1, Upd [g] w w1 → Has w1 g (mach .nilFunc (c + 1) rest) T → Calls Tryz.prog f #[.pointer (some ⟨g, 0, none⟩)] w1 fun e w' => e = .returned (.tuple #[]) ∧ Q w') :
    Calls Tryz.prog 57 #[.pointer (some ⟨g, 0, none⟩)] w fun e w' => e = .returned (.bool true) ∧ Q w' := by
  have F0 := hg.cell 0
  have F4 := hg.cell 4
  have Fz := hg.frozen
  simp only [mach, List.getElem?_toArray, List.getElem?_cons_zero, List.getElem?_cons_succ] at F0 F4
  have hf' : ∀ (args : Array Value) (w : World), (callFunc f args).run Tryz.prog w = .ok (.enter f args) w := hf
  go_enter Tryz.func57, Tryz.ntmps57
  go_wp2
  refine (h _ (by (repeat (first | (with_reducible exact Upd.refl _ _) | (with_reducible assumption) | (with_reducible refine Upd.setCell ?_ (by first | (left; simp; done) | (right; go_size)) _) | (with_reducible refine Upd.alloc ?_ _) | (with_reducible refine Upd.drewN ?_ _) | (with_reducible refine Upd.drew ?_)))) (by (apply Has.congr; (focus ((repeat (first | (with_reducible assumption) | (with_reducible exact Has.new _ _ _) | (with_reducible exact Has.new1 _ _ _ _) | (with_reducible exact Has.new2 _ _ _ _ _) | (with_reducible refine Has.newAt ?_; (simp; done)) | (with_reducible apply Has.set) | (with_reducible apply Has.far; (case hn => first | assumption | (simp; done) | (intro e_; simp at e_; omega))) | (with_reducible apply Has.alloc) | (with_reducible apply Has.drewN) | (with_reducible apply Has.drew) | (with_reducible refine Has.keeps ?_ (by with_reducible assumption)))))); (first | rfl | (simp; done))))).mono ?_
  rintro e w' ⟨rfl, hq⟩
  go_wp2
  go_ret
  exact ⟨rfl, hq⟩
theorem mstep_nil (hg : Has w g (mach .nilFunc c rest) T) :
    Calls Tryz.prog 57 #[.pointer (some ⟨g, 0, none⟩)] w fun e w' => e = .returned (.bool false) ∧ w = w' := by
  have F0 := hg.cell 0
  simp only [mach, List.getElem?_toArray, List.getElem?_cons_zero, List.getElem?_cons_succ] at F0
  go_enter Tryz.func57, Tryz.ntmps57
  go_wp2
  go_ret
  exact ⟨rfl, rfl⟩
theorem mdone_c (hg : Has w g (mach (nxt o g) c rest) T) :
    Calls Tryz.prog 58 #[.pointer (some ⟨g, 0, none⟩)] w fun e w' => e = .returned (.bool o.isNone) ∧ w = w' := by
  have F0 := hg.cell 0
  simp only [mach, List.getElem?_toArray, List.getElem?_cons_zero, List.getElem?_cons_succ] at F0
  cases o with
  | none =>
    simp only [nxt_none] at F0
    go_enter Tryz.func58, Tryz.ntmps58
    go_wp2
    go_ret
    exact ⟨rfl, rfl⟩
  | some f =>
    simp only [nxt_some] at F0
    go_enter Tryz.func58, Tryz.ntmps58
    go_wp2
    go_ret
    exact ⟨rfl, rfl⟩
theorem mgo_c (f h : Nat) {nx : Value} (hg : Has w g (mach nx c rest) T) :
    Calls Tryz.prog 41 #[.pointer (some ⟨g, 0, none⟩), bound f h] w fun e w' => e = .returned (.tuple #[]) ∧ Upd [g] w w' ∧ Has w' g (mach (bound f h) c rest) T := by
  have F0 := hg.cell 0
  have Fz := hg.frozen
  simp only [mach, List.getElem?_toArray, List.getElem?_cons_zero, List.getElem?_cons_succ] at F0
  go_enter Tryz.func41, Tryz.ntmps41
  go_wp2
  go_end0
  exact ⟨rfl, by (repeat (first | (with_reducible exact Upd.refl _ _) | (with_reducible assumption) | (with_reducible refine Upd.setCell ?_ (by first | (left; simp; done) | (right; go_size)) _) | (with_reducible refine Upd.alloc ?_ _) | (with_reducible refine Upd.drewN ?_ _) | (with_reducible refine Upd.drew ?_))), by (apply Has.congr; (focus ((repeat (first | (with_reducible assumption) | (with_reducible exact Has.new _ _ _) | (with_reducible exact Has.new1 _ _ _ _) | (with_reducible exact Has.new2 _ _ _ _ _) | (with_reducible refine Has.newAt ?_; (simp; done)) | (with_reducible apply Has.set) | (with_reducible apply Has.far; (case hn => first | assumption | (simp; done) | (intro e_; simp at e_; omega))) | (with_reducible apply Has.alloc) | (with_reducible apply Has.drewN) | (with_reducible apply Has.drew) | (with_reducible refine Has.keeps ?_ (by with_reducible assumption)))))); (first | rfl | (simp; done)))⟩
end
end Go.Proofs.YtaecapjicphdkaaGreat

/- What package stack does: the Stack's own functions. -/
namespace Go.Proofs.YtaecapjicphdkaaGreat
set_option linter.unusedVariables false
set_option linter.unusedSimpArgs false
open Go Go.RowKit
set_option maxRecDepth 100000
attribute [local go_sem ↓] Go.wp_at_zero Go.wp_at_succ
set_option maxHeartbeats 1000000

theorem wp_named' {P : Program} {c : Code} {Q : Exit → Act → World → Prop} {a : Act} {w : World} (h : ∀ W, W = w → c.wp P Q a W) : c.wp P Q a w := h w rfl
theorem wrapI_ok (a : Int) (h0 : -9223372036854775808 ≤ a) (h1 : a < 9223372036854775808) : IntKind.i64.wrap a = a := by
  rw [IntKind.wrap_i64]
  omega
theorem wrapW_ok (a : Int) (h0 : 0 ≤ a) (h1 : a < 18446744073709551616) : IntKind.u64.wrap a = a := by
  simp [IntKind.wrap, IntKind.signed, IntKind.bits]
  omega
/-- A Stack's struct. -/
def stackOf (m : Nat) (h lk n : Int) : Array Value := #[.pointer (some ⟨m, 0, none⟩), .int .i64 h, .int .i64 lk, .int .i64 n]
def topI (n x : Int) : Int := if x % 4294967296 - 1 < n then x % 4294967296 - 1 else -1
def belowI (n x : Int) : Int := if n < x then -1 else x - 1
def nextI (x item : Int) : Int := headI item (tagN (x / 4294967296))
section
variable {w : World} {S m b N : Nat} {h lk n : Int} {l : List Int} {cc : Int} {x : Acc}
theorem top_c (v : Int) (hS : Has w S (stackOf m h lk n) 143) (v0 : 0 ≤ v) (v1 : v < 18446744073709551616) :
    Calls Tryz.prog 95 #[.pointer (some ⟨S, 0, none⟩), .int .u64 v] w fun e w' => e = .returned (.int .i64 (topI n v)) ∧ Keeps w w' := by
  obtain ⟨i, hi⟩ : ∃ i, v % 4294967296 - 1 = i := ⟨_, rfl⟩
  obtain ⟨t, ht⟩ : ∃ t, v / 4294967296 = t := ⟨_, rfl⟩
  have et : topI n v = if i < n then i else -1 := by unfold topI; rw [hi]
  rw [et]
  have HI := Lib.hid hi
  have HT := Lib.hid ht
  clear hi ht et
  have FX_ := (hS).facts; simp only [blockFacts, listFacts, cellsAt, Nat.reduceAdd, and_true, true_and, and_assoc, stackOf] at FX_
  have HS := hS
  go_enter Tryz.func95, Tryz.ntmps95
  go_wp2_with (go_at_call 130; refine (getHead_c _ _ v0 v1).mono ?_; rintro e w' ⟨rfl, hk⟩; rw [HI.out, HT.out]; have HS := HS.keeps hk; have k0 := hk.size)
  refine wp_named' (fun W hW => ?_)
  have HK : Keeps w W := by rw [hW]; ((repeat' (first | (with_reducible exact Keeps.refl _) | (with_reducible assumption) | (with_reducible refine Keeps.drewN ?_ _) | (with_reducible refine Keeps.drew ?_) | (with_reducible refine Keeps.alloc ?_ _) | (with_reducible refine Keeps.setCell ?_ ?_ _) | (with_reducible refine Keeps.trans ?_ (After.keeps _)) | (with_reducible refine Keeps.trans ?_ (by with_reducible assumption)) | go_size)); (first | done | fail))
  have HS := hS.keeps HK
  have HV : Has W w'.heap.size #[.int .i64 i, .int .i64 t] 187 := by rw [hW]; (apply Has.congr; (focus ((repeat (first | (with_reducible assumption) | (with_reducible exact Has.new _ _ _) | (with_reducible exact Has.new1 _ _ _ _) | (with_reducible exact Has.new2 _ _ _ _ _) | (with_reducible refine Has.newAt ?_; (simp; done)) | (with_reducible apply Has.set) | (with_reducible apply Has.far; (case hn => first | assumption | (simp; done) | (intro e_; simp at e_; omega))) | (with_reducible apply Has.alloc) | (with_reducible apply Has.drewN) | (with_reducible apply Has.drew) | (with_reducible refine Has.keeps ?_ (by with_reducible assumption)))))); (first | rfl | (simp; done)))
  clear hW
  by_cases hc : i < n
  · go_region_held3 (fun y => y.cell? ⟨w'.heap.size, 0, none⟩ = some (.int .i64 i) ∧ y.cell? ⟨S, 3, none⟩ = some (.int .i64 n)) (((repeat' (with_reducible apply And.intro)) <;> (apply Has.cellv; (focus ((repeat (first | (with_reducible assumption) | (with_reducible exact Has.new _ _ _) | (with_reducible exact Has.new1 _ _ _ _) | (with_reducible exact Has.new2 _ _ _ _ _) | (with_reducible refine Has.newAt ?_; (simp; done)) | (with_reducible apply Has.set) | (with_reducible apply Has.far; (case hn => first | assumption | (simp; done) | (intro e_; simp at e_; omega))) | (with_reducible apply Has.alloc) | (with_reducible apply Has.drewN) | (with_reducible apply Has.drew) | (with_reducible refine Has.keeps ?_ (by with_reducible assumption)))))); (first | (with_reducible assumption) | rfl | (simp; done) | fail)))) (fail)
    have FX_ := (HV).facts; simp only [blockFacts, listFacts, cellsAt, Nat.reduceAdd, and_true, true_and, and_assoc] at FX_
    go_wp2
    go_ret
    exact ⟨rfl, by ((repeat' (first | (with_reducible exact Keeps.refl _) | (with_reducible assumption) | (with_reducible refine Keeps.drewN ?_ _) | (with_reducible refine Keeps.drew ?_) | (with_reducible refine Keeps.alloc ?_ _) | (with_reducible refine Keeps.setCell ?_ ?_ _) | (with_reducible refine Keeps.trans ?_ (After.keeps _)) | (with_reducible refine Keeps.trans ?_ (by with_reducible assumption)) | go_size)); (first | done | fail))⟩
  · go_region_held3 (fun y => y.cell? ⟨w'.heap.size, 0, none⟩ = some (.int .i64 i) ∧ y.cell? ⟨S, 3, none⟩ = some (.int .i64 n)) (((repeat' (with_reducible apply And.intro)) <;> (apply Has.cellv; (focus ((repeat (first | (with_reducible assumption) | (with_reducible exact Has.new _ _ _) | (with_reducible exact Has.new1 _ _ _ _) | (with_reducible exact Has.new2 _ _ _ _ _) | (with_reducible refine Has.newAt ?_; (simp; done)) | (with_reducible apply Has.set) | (with_reducible apply Has.far; (case hn => first | assumption | (simp; done) | (intro e_; simp at e_; omega))) | (with_reducible apply Has.alloc) | (with_reducible apply Has.drewN) | (with_reducible apply Has.drew) | (with_reducible refine Has.keeps ?_ (by with_reducible assumption)))))); (first | (with_reducible assumption) | rfl | (simp; done) | fail)))) (fail)
    have FX_ := (HV).facts; simp only [blockFacts, listFacts, cellsAt, Nat.reduceAdd, and_true, true_and, and_assoc] at FX_
    go_wp2
    go_ret
    exact ⟨rfl, by ((repeat' (first | (with_reducible exact Keeps.refl _) | (with_reducible assumption) | (with_reducible refine Keeps.drewN ?_ _) | (with_reducible refine Keeps.drew ?_) | (with_reducible refine Keeps.alloc ?_ _) | (with_reducible refine Keeps.setCell ?_ ?_ _) | (with_reducible refine Keeps.trans ?_ (After.keeps _)) | (with_reducible refine Keeps.trans ?_ (by with_reducible assumption)) | go_size)); (first | done | fail))⟩
theorem below_c (v : Int) (hS : Has w S (stackOf m h lk n) 143) (v0 : 0 ≤ v) (v1 : v < 18446744073709551616) (n0 : 0 ≤ n) (n1 : n ≤ 9000000) :
    Calls Tryz.prog 96 #[.pointer (some ⟨S, 0, none⟩), .int .u64 v] w fun e w' => e = .returned (.int .i64 (belowI n v)) ∧ w = w' := by
  have FX_ := (hS).facts; simp only [blockFacts, listFacts, cellsAt, Nat.reduceAdd, and_true, true_and, and_assoc, stackOf] at FX_
  unfold belowI
  have pw := wrapW_ok n n0 (by omega)
  by_cases hc : n < v
  · rw [if_pos hc]
    go_enter Tryz.func96, Tryz.ntmps96
    go_wp2
    go_ret
    exact ⟨rfl, rfl⟩
  · rw [if_neg hc]
    have h2 : v ≤ 9000000 := by omega
    go_enter Tryz.func96, Tryz.ntmps96
    go_wp2
    go_ret
    exact ⟨rfl, rfl⟩
theorem exchange_eq (hd : Nat) (v item : Int) (hS : Has w S (stackOf m hd lk n) 143) (M : Mem w m b N l cc x) (v0 : 0 ≤ v) (v1 : v < 18446744073709551616) (ho : l[hd]? = some v) (hcc : cc < 4611686018427387903) :
    Calls Tryz.prog 144 #[.pointer (some ⟨S, 0, none⟩), .int .u64 v, .int .i64 item] w fun e w' => e = .returned (.bool true) ∧ Upd [m, b] w w' ∧ Mem w' m b N (l.set hd (nextI v item)) (cc + 1) ⟨3, hd, v, nextI v item, true⟩ := by
  obtain ⟨i, hi⟩ : ∃ i, v % 4294967296 - 1 = i := ⟨_, rfl⟩
  obtain ⟨t, ht⟩ : ∃ t, v / 4294967296 = t := ⟨_, rfl⟩
  obtain ⟨q, hq⟩ : ∃ q, nextI v item = q := ⟨_, rfl⟩
  have hq2 : headI item (tagN t) = q := by rw [← hq, ← ht]; rfl
  rw [hq]
  have HI := Lib.hid hi
  have HT := Lib.hid ht
  have HQ := Lib.hid hq2
  have HO := Lib.hid ho
  clear hi ht hq hq2 ho
  have ne_ := Has.ne hS M.hg (by decide); have ne_' := Ne.symm ne_
  have ne_ := Has.ne hS M.hb (by decide); have ne_' := Ne.symm ne_
  have FX_ := (hS).facts; simp only [blockFacts, listFacts, cellsAt, Nat.reduceAdd, and_true, true_and, and_assoc, stackOf] at FX_
  have K0 := Keeps.refl w
  go_enter Tryz.func144, Tryz.ntmps144
  go_wp2_with (first
    | (go_at_call 130; refine (getHead_c _ _ v0 v1).mono ?_; rintro e w' ⟨rfl, hk⟩; rw [HI.out, HT.out]; have K0 := K0.trans hk)
    | (go_at_call 145; refine (next_c _ _ _ _).mono ?_; rintro e w' ⟨rfl, hk⟩; have K0 := K0.trans hk)
    | (go_at_call 127; refine (putHead_c _ _ _).mono ?_; rintro e w' ⟨rfl, hk⟩; have K0 := K0.trans hk; rw [HQ.out]))
  have HS := hS.keeps K0
  have MW := M.keeps K0
  go_region_held3 (fun y => y.cell? ⟨S, 0, none⟩ = some (.pointer (some ⟨m, 0, none⟩)) ∧ y.cell? ⟨S, 1, none⟩ = some (.int .i64 hd)) (((repeat' (with_reducible apply And.intro)) <;> (apply Has.cellv; (focus ((repeat (first | (with_reducible assumption) | (with_reducible exact Has.new _ _ _) | (with_reducible exact Has.new1 _ _ _ _) | (with_reducible exact Has.new2 _ _ _ _ _) | (with_reducible refine Has.newAt ?_; (simp; done)) | (with_reducible apply Has.set) | (with_reducible apply Has.far; (case hn => first | assumption | (simp; done) | (intro e_; simp at e_; omega))) | (with_reducible apply Has.alloc) | (with_reducible apply Has.drewN) | (with_reducible apply Has.drew) | (with_reducible refine Has.keeps ?_ (by with_reducible assumption)))))); (first | (with_reducible assumption) | rfl | (simp; done) | fail))))
    ((go_at_call 120; refine (mcas_eq (MW.keeps (by ((repeat' (first | (with_reducible exact Keeps.refl _) | (with_reducible assumption) | (with_reducible refine Keeps.drewN ?_ _) | (with_reducible refine Keeps.drew ?_) | (with_reducible refine Keeps.alloc ?_ _) | (with_reducible refine Keeps.setCell ?_ ?_ _) | (with_reducible refine Keeps.trans ?_ (After.keeps _)) | (with_reducible refine Keeps.trans ?_ (by with_reducible assumption)) | go_size)); (first | done | fail)))) hd _ HO.out hcc).mono ?_; rintro e w' ⟨rfl, hu2, M2⟩; have HS := (HS.keeps (by ((repeat' (first | (with_reducible exact Keeps.refl _) | (with_reducible assumption) | (with_reducible refine Keeps.drewN ?_ _) | (with_reducible refine Keeps.drew ?_) | (with_reducible refine Keeps.alloc ?_ _) | (with_reducible refine Keeps.setCell ?_ ?_ _) | (with_reducible refine Keeps.trans ?_ (After.keeps _)) | (with_reducible refine Keeps.trans ?_ (by with_reducible assumption)) | go_size)); (first | done | fail)))).upd hu2 (by simp only [List.mem_cons, List.not_mem_nil, or_false, not_or]; (repeat' apply And.intro) <;> assumption)))
  go_wp2
  go_ret
  exact ⟨rfl, ((Upd.of_keeps K0).drew).trans hu2, M2⟩
theorem exchange_ne (hd : Nat) (v item o : Int) (hS : Has w S (stackOf m hd lk n) 143) (M : Mem w m b N l cc x) (v0 : 0 ≤ v) (v1 : v < 18446744073709551616) (ho : l[hd]? = some o) (hov : ¬ o = v) (hcc : cc < 4611686018427387903) :
    Calls Tryz.prog 144 #[.pointer (some ⟨S, 0, none⟩), .int .u64 v, .int .i64 item] w fun e w' => e = .returned (.bool false) ∧ Upd [m, b] w w' ∧ Mem w' m b N l (cc + 1) ⟨3, hd, o, o, false⟩ := by
  obtain ⟨i, hi⟩ : ∃ i, v % 4294967296 - 1 = i := ⟨_, rfl⟩
  obtain ⟨t, ht⟩ : ∃ t, v / 4294967296 = t := ⟨_, rfl⟩
  obtain ⟨q, hq2⟩ : ∃ q, headI item (tagN t) = q := ⟨_, rfl⟩
  have HI := Lib.hid hi
  have HT := Lib.hid ht
  have HQ := Lib.hid hq2
  have HO := Lib.hid ho
  have HN : Hid ((o != v) = true) := Lib.hid (by simp [hov])
  clear hi ht hq2 ho hov
  have ne_ := Has.ne hS M.hg (by decide); have ne_' := Ne.symm ne_
  have ne_ := Has.ne hS M.hb (by decide); have ne_' := Ne.symm ne_
  have FX_ := (hS).facts; simp only [blockFacts, listFacts, cellsAt, Nat.reduceAdd, and_true, true_and, and_assoc, stackOf] at FX_
  have K0 := Keeps.refl w
  go_enter Tryz.func144, Tryz.ntmps144
  go_wp2_with (first
    | (go_at_call 130; refine (getHead_c _ _ v0 v1).mono ?_; rintro e w' ⟨rfl, hk⟩; rw [HI.out, HT.out]; have K0 := K0.trans hk)
    | (go_at_call 145; refine (next_c _ _ _ _).mono ?_; rintro e w' ⟨rfl, hk⟩; have K0 := K0.trans hk)
    | (go_at_call 127; refine (putHead_c _ _ _).mono ?_; rintro e w' ⟨rfl, hk⟩; have K0 := K0.trans hk; rw [HQ.out]))
  have HS := hS.keeps K0
  have MW := M.keeps K0
  go_region_held3 (fun y => y.cell? ⟨S, 0, none⟩ = some (.pointer (some ⟨m, 0, none⟩)) ∧ y.cell? ⟨S, 1, none⟩ = some (.int .i64 hd)) (((repeat' (with_reducible apply And.intro)) <;> (apply Has.cellv; (focus ((repeat (first | (with_reducible assumption) | (with_reducible exact Has.new _ _ _) | (with_reducible exact Has.new1 _ _ _ _) | (with_reducible exact Has.new2 _ _ _ _ _) | (with_reducible refine Has.newAt ?_; (simp; done)) | (with_reducible apply Has.set) | (with_reducible apply Has.far; (case hn => first | assumption | (simp; done) | (intro e_; simp at e_; omega))) | (with_reducible apply Has.alloc) | (with_reducible apply Has.drewN) | (with_reducible apply Has.drew) | (with_reducible refine Has.keeps ?_ (by with_reducible assumption)))))); (first | (with_reducible assumption) | rfl | (simp; done) | fail))))
    ((go_at_call 120; refine (mcas_ne (MW.keeps (by ((repeat' (first | (with_reducible exact Keeps.refl _) | (with_reducible assumption) | (with_reducible refine Keeps.drewN ?_ _) | (with_reducible refine Keeps.drew ?_) | (with_reducible refine Keeps.alloc ?_ _) | (with_reducible refine Keeps.setCell ?_ ?_ _) | (with_reducible refine Keeps.trans ?_ (After.keeps _)) | (with_reducible refine Keeps.trans ?_ (by with_reducible assumption)) | go_size)); (first | done | fail)))) hd _ _ HO.out hcc HN.out).mono ?_; rintro e w' ⟨rfl, hu2, M2⟩; have HS := (HS.keeps (by ((repeat' (first | (with_reducible exact Keeps.refl _) | (with_reducible assumption) | (with_reducible refine Keeps.drewN ?_ _) | (with_reducible refine Keeps.drew ?_) | (with_reducible refine Keeps.alloc ?_ _) | (with_reducible refine Keeps.setCell ?_ ?_ _) | (with_reducible refine Keeps.trans ?_ (After.keeps _)) | (with_reducible refine Keeps.trans ?_ (by with_reducible assumption)) | go_size)); (first | done | fail)))).upd hu2 (by simp only [List.mem_cons, List.not_mem_nil, or_false, not_or]; (repeat' apply And.intro) <;> assumption)))
  go_wp2
  go_ret
  exact ⟨rfl, ((Upd.of_keeps K0).drew).trans hu2, M2⟩
end
end Go.Proofs.YtaecapjicphdkaaGreat
