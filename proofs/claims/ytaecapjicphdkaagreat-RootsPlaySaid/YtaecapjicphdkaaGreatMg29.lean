/- Workers, each with blocks of his own, pairwise apart. -/
import Derived.Test.YtaecapjicphdkaaGreatMg01
import Derived.Test.YtaecapjicphdkaaGreatMg28
namespace Go.Proofs.YtaecapjicphdkaaGreat
set_option linter.unusedVariables false
set_option linter.unusedSimpArgs false
open Go Go.RowKit
set_option maxRecDepth 100000

theorem foot_mem {F : List (List Nat)} {i : Nat} {f : List Nat} (h : F[i]? = some f) {y : Nat} (hy : y ∈ f) : y ∈ F.flatten :=
  List.mem_flatten.2 ⟨f, List.mem_of_getElem? h, hy⟩
theorem foot_apart : ∀ {F : List (List Nat)} {i j : Nat} {f f' : List Nat}, F.flatten.Nodup → F[i]? = some f → F[j]? = some f' → j ≠ i → ∀ y ∈ f', y ∉ f
  | [], i, j, f, f', _, h, _, _ => by simp at h
  | x :: F, 0, 0, f, f', _, _, _, hn => absurd rfl hn
  | x :: F, 0, j + 1, f, f', hd, h, h', _ => fun y hy hy2 => by
    simp at h; subst h
    rw [List.flatten_cons, List.nodup_append] at hd
    exact hd.2.2 y hy2 y (foot_mem (by simpa using h') hy) rfl
  | x :: F, i + 1, 0, f, f', hd, h, h', _ => fun y hy hy2 => by
    simp at h'; subst h'
    rw [List.flatten_cons, List.nodup_append] at hd
    exact hd.2.2 y hy y (foot_mem (by simpa using h) hy2) rfl
  | x :: F, i + 1, j + 1, f, f', hd, h, h', hn => by
    rw [List.flatten_cons, List.nodup_append] at hd
    exact foot_apart hd.2.1 (by simpa using h) (by simpa using h') (by omega)
theorem foot_set_mem : ∀ {F : List (List Nat)} {i : Nat} {f' : List Nat} {y : Nat}, y ∈ (F.set i f').flatten → y ∈ f' ∨ y ∈ F.flatten := by
  intro F i f' y h
  obtain ⟨g, hg, hy⟩ := List.mem_flatten.1 h
  rcases List.mem_or_eq_of_mem_set hg with hg | rfl
  · exact .inr (List.mem_flatten.2 ⟨g, hg, hy⟩)
  · exact .inl hy
theorem foot_set : ∀ {F : List (List Nat)} {i : Nat} {f f' : List Nat} {s : Nat}, F.flatten.Nodup → (∀ y ∈ F.flatten, y < s) → F[i]? = some f → f'.Nodup → (∀ y ∈ f', y ∈ f ∨ s ≤ y) → (F.set i f').flatten.Nodup
  | [], i, f, f', s, _, _, h, _, _ => by simp at h
  | x :: F, 0, f, f', s, hd, hs, h, hn, hf => by
    simp at h; subst h
    rw [List.flatten_cons, List.nodup_append] at hd
    rw [List.set_cons_zero, List.flatten_cons, List.nodup_append]
    refine ⟨hn, hd.2.1, fun a ha b hb e => ?_⟩
    subst e
    rcases hf a ha with h | h
    · exact hd.2.2 a h a hb rfl
    · have := hs a (by rw [List.flatten_cons]; exact List.mem_append_right _ hb); omega
  | x :: F, i + 1, f, f', s, hd, hs, h, hn, hf => by
    rw [List.flatten_cons, List.nodup_append] at hd
    rw [List.set_cons_succ, List.flatten_cons, List.nodup_append]
    have h2 : F[i]? = some f := by simpa using h
    refine ⟨hd.1, foot_set hd.2.1 (fun y hy => hs y (by rw [List.flatten_cons]; exact List.mem_append_right _ hy)) h2 hn hf, fun a ha b hb e => ?_⟩
    subst e
    rcases foot_set_mem hb with hb | hb
    · rcases hf a hb with h3 | h3
      · exact hd.2.2 a ha a (foot_mem h2 h3) rfl
      · have := hs a (by rw [List.flatten_cons]; exact List.mem_append_left _ ha); omega
    · exact hd.2.2 a ha a hb rfl
/-- Workers, each with a place and a state, his blocks apart from the others'. -/
structure Gang {α β : Type} (foot : α → List Nat) (R : World → α → β → Prop) (w : World) (B : Nat) (cs : List α) (ws : List β) : Prop where
  rep : ∀ (i : Nat) c k, cs[i]? = some c → ws[i]? = some k → R w c k
  nd : ((cs.map foot).flatten).Nodup
  own : ∀ y ∈ (cs.map foot).flatten, B ≤ y ∧ y < w.heap.size
  clen : cs.length = 4
  wlen : ws.length = 4
/-- What a place says holds as long as its blocks stand. -/
def Frames {α β : Type} (foot : α → List Nat) (R : World → α → β → Prop) : Prop := ∀ {w w' : World} {T : List Nat} {c : α} {k : β}, R w c k → Upd T w w' → (∀ y ∈ foot c, y ∉ T) → R w' c k
section
variable {α β : Type} {foot : α → List Nat} {R : World → α → β → Prop} {w w' : World} {B : Nat} {T : List Nat} {cs : List α} {ws : List β}
theorem Gang.upd (h : Gang foot R w B cs ws) (hR : Frames foot R) (hu : Upd T w w') (hT : ∀ y ∈ (cs.map foot).flatten, y ∉ T) : Gang foot R w' B cs ws := by
  refine ⟨fun i c k hc hk => hR (h.rep i c k hc hk) hu (fun y hy => hT y (foot_mem (F := cs.map foot) (i := i) (f := foot c) (by simp [hc]) hy)), h.nd, fun y hy => ?_, h.clen, h.wlen⟩
  have := h.own y hy
  have := hu.size
  omega
theorem Gang.keeps (h : Gang foot R w B cs ws) (hR : Frames foot R) (hk : Keeps w w') : Gang foot R w' B cs ws := h.upd hR (Upd.of_keeps (S := []) hk) (fun _ _ => by simp)
/-- One of them turns. -/
theorem Gang.turn (h : Gang foot R w B cs ws) (hR : Frames foot R) {i : Nat} {c c' : α} {k k' : β} (hc : cs[i]? = some c) (hk : ws[i]? = some k) (hu : Upd T w w')
    (hT : ∀ y ∈ (cs.map foot).flatten, y ∉ foot c → y ∉ T) (hr : R w' c' k') (hn : (foot c').Nodup) (hf : ∀ y ∈ foot c', (y ∈ foot c ∨ w.heap.size ≤ y) ∧ y < w'.heap.size) (hB : B ≤ w.heap.size) : Gang foot R w' B (cs.set i c') (ws.set i k') := by
  have hci : (cs.map foot)[i]? = some (foot c) := by simp [hc]
  have hl1 := (List.getElem?_eq_some_iff.1 hc).1
  have hl2 := (List.getElem?_eq_some_iff.1 hk).1
  have em : (cs.set i c').map foot = (cs.map foot).set i (foot c') := by rw [List.map_set]
  refine ⟨fun j d q hd hq => ?_, ?_, fun y hy => ?_, by simp [h.clen], by simp [h.wlen]⟩
  · by_cases hji : j = i
    · subst hji
      rw [List.getElem?_set_self hl1] at hd
      rw [List.getElem?_set_self hl2] at hq
      cases hd; cases hq
      exact hr
    · rw [List.getElem?_set_ne (fun e => hji e.symm)] at hd hq
      have hdj : (cs.map foot)[j]? = some (foot d) := by simp [hd]
      exact hR (h.rep j d q hd hq) hu (fun y hy => hT y (foot_mem hdj hy) (foot_apart h.nd hci hdj hji y hy))
  · rw [em]
    exact foot_set h.nd (fun y hy => (h.own y hy).2) hci hn (fun y hy => (hf y hy).1)
  · rw [em] at hy
    have hs := hu.size
    rcases foot_set_mem hy with hy | hy
    · obtain ⟨h1 | h1, h2⟩ := hf y hy
      · exact ⟨(h.own y (foot_mem hci h1)).1, h2⟩
      · exact ⟨by omega, h2⟩
    · have := h.own y hy; omega
/-- The same world; a place that has no more blocks than it had. -/
theorem Gang.less (h : Gang foot R w B cs ws) (hR : Frames foot R) {i : Nat} {c c' : α} {k k' : β} (hc : cs[i]? = some c) (hk : ws[i]? = some k) (hr : R w c' k') (hs : List.Sublist (foot c') (foot c)) (hB : B ≤ w.heap.size) : Gang foot R w B (cs.set i c') (ws.set i k') := by
  have hci : (cs.map foot)[i]? = some (foot c) := by simp [hc]
  have hin : foot c ∈ cs.map foot := List.mem_of_getElem? hci
  have hnd : (foot c).Nodup := (List.pairwise_flatten.1 h.nd).1 _ hin
  exact h.turn hR hc hk (Upd.refl [] w) (fun _ _ _ => by simp) hr (hnd.sublist hs) (fun y hy => ⟨.inl (hs.subset hy), (h.own y (foot_mem hci (hs.subset hy))).2⟩) hB
theorem Gang.foot_nd (h : Gang foot R w B cs ws) {i : Nat} {c : α} (hc : cs[i]? = some c) : (foot c).Nodup :=
  (List.pairwise_flatten.1 h.nd).1 _ (List.mem_of_getElem? (show (cs.map foot)[i]? = some (foot c) by simp [hc]))
theorem Gang.foot_own (h : Gang foot R w B cs ws) {i : Nat} {c : α} (hc : cs[i]? = some c) : ∀ y ∈ foot c, B ≤ y ∧ y < w.heap.size := fun y hy =>
  h.own y (foot_mem (F := cs.map foot) (i := i) (by simp [hc]) hy)
/-- A block of another type is nobody's. -/
theorem Gang.out (h : Gang foot R w B cs ws) {b : Nat} (hb : ∀ c k, R w c k → b ∉ foot c) : b ∉ (cs.map foot).flatten := by
  intro hm
  obtain ⟨f, hf, hy⟩ := List.mem_flatten.1 hm
  obtain ⟨c, hc, rfl⟩ := List.mem_map.1 hf
  obtain ⟨i, hi, e⟩ := List.mem_iff_getElem.1 hc
  have h1 : cs[i]? = some c := by rw [List.getElem?_eq_getElem hi, e]
  have hi2 : i < ws.length := by rw [h.wlen, ← h.clen]; exact hi
  exact hb c ws[i] (h.rep i c _ h1 (List.getElem?_eq_getElem hi2)) hy
end
end Go.Proofs.YtaecapjicphdkaaGreat

/- The document's Create (layer 11), walked: an access of its Pop; all as a plain machine. -/
namespace Go.Proofs.YtaecapjicphdkaaGreat
set_option linter.unusedVariables false
set_option linter.unusedSimpArgs false
open Go Go.RowKit
set_option maxRecDepth 100000
attribute [local go_sem ↓] Go.wp_at_zero Go.wp_at_succ
set_option maxHeartbeats 1000000

theorem RPoRep.updT {w w' : World} {B g S : Nat} {v : Value} {T : List Nat} {s : Po} (h : RPoRep w B g S v s) (hu : Upd T w w') (h1 : g ∉ T) (h2 : ∀ y ∈ ownB v, y ∉ T) : RPoRep w' B g S v s := ⟨h.has.upd hu h1, h.row.upd hu h2⟩
section
variable {w : World} {W gg gb N T P q Sp hd lk n B : Nat} {l : List Int} {cc C : Int} {v : Value} {t : Po} {cls c point slot gen g mk cl ofs code : Int}
/-- What the Create holds behind an access of its Pop. -/
def rcPopped (W : Nat) (cls c point slot gen : Int) (P : Nat) (g mk cl ofs code : Int) (t : Po) : Array Value :=
  if t.ph < 3 then rcreateOf W cls 0 (c + 1) point slot gen P g mk cl ofs code false
  else if t.got = [] then rcreateOf W cls 0 (c + 1) (c + 1) slot gen P g mk cl ofs 7 true
  else rcreateOf W cls 1 (c + 1) (c + 1) (t.got.getD 0 0) gen P g mk cl ofs code false
theorem rcr_pop {p k d s cz b : Int} {Pl Sv E : Value} {s0 : Po} (hT : Has w T (rcreateOf W cls 0 c point slot gen P g mk cl ofs code false) 127) (hW : Has w W (rwOf p k d s cz b gg Pl Sv E) 85) (hP : RPoRep w B P Sp v s0) (hS : Has w Sp (rstackOf gg hd lk n) 136) (M : RMem w gg gb N l cc) (L : StOk hd lk n N l) (H : PoInv n C s0) (hC : C ≤ 90000) (h3 : s0.ph < 3) (hB : B ≤ w.heap.size) (c0 : 0 ≤ c) (c1 : c < 1000000) (hcc : cc < 4611686018427387903) :
    Calls Tryz.prog 59 #[.pointer (some ⟨T, 0, none⟩)] w fun e w' => ∃ v', e = .returned (.bool true) ∧ Upd (T :: P :: gg :: gb :: ownB v) w w' ∧ Has w' T (rcPopped W cls c point slot gen P g mk cl ofs code (poStep hd lk n l s0)) 127 ∧
      RPoRep w' B P Sp v' (poStep hd lk n l s0) ∧ RMem w' gg gb N (poMem hd l s0) (cc + 1) ∧ (∀ y ∈ ownB v', y ∈ ownB v ∨ w.heap.size ≤ y) := by
  have nTg : T ≠ gg := hT.ne M.hg (by decide)
  have nTb : T ≠ gb := hT.ne M.hb (by decide)
  have nTW : T ≠ W := hT.ne hW (by decide)
  have nTS : T ≠ Sp := hT.ne hS (by decide)
  have nTP : T ≠ P := hT.ne hP.has (by decide)
  have nPW : W ≠ P := hW.ne hP.has (by decide)
  have nWg : W ≠ gg := hW.ne M.hg (by decide)
  have nWb : W ≠ gb := hW.ne M.hb (by decide)
  have nvT : ∀ y ∈ ownB v, y ≠ T := hP.row.ne hT (by decide)
  have nvW : ∀ y ∈ ownB v, y ≠ W := hP.row.ne hW (by decide)
  have hpc : poCount s0 = 1 := if_pos h3
  have hst := H.step L
  have hgl : s0.got.length ≤ 100000 := by have h1 := H.len; have h2 := H.c1; omega
  have hgl2 : (poStep hd lk n l s0).got.length ≤ 1000000 := by have h1 := hst.len; have h2 := hst.c1; omega
  have HGL := Lib.hid hgl2
  -- the Pop's access in any world in which T alone has turned
  have PS : Hid (∀ w1, Upd [T] w w1 → Calls Tryz.prog 97 #[.pointer (some ⟨P, 0, none⟩)] w1 fun e w' => ∃ v', e = .returned (.bool true) ∧ Upd (P :: gg :: gb :: ownB v) w1 w' ∧ RPoRep w' B P Sp v' (poStep hd lk n l s0) ∧ RMem w' gg gb N (poMem hd l s0) (cc + 1) ∧ (∀ y ∈ ownB v', y ∈ ownB v ∨ w1.heap.size ≤ y)) := Lib.hid (fun w1 hu => by
    have h := rpoStep_c (hP.updT hu (by simpa using Ne.symm nTP) (fun y hy => by simpa using nvT y hy)) (hS.upd hu (by simpa using Ne.symm nTS)) (M.upd hu (by simpa using Ne.symm nTg) (by simpa using Ne.symm nTb)) L (H.ok (by omega)) hgl (Nat.le_trans hB hu.size) hcc
    rw [hpc, decide_eq_true h3] at h
    exact h)
  have HT0 := hT
  have HW0 := hW
  have FX_ := (hT).facts; simp only [blockFacts, listFacts, cellsAt, Nat.reduceAdd, and_true, true_and, and_assoc] at FX_
  have FX_ := (hW).facts; simp only [blockFacts, listFacts, cellsAt, Nat.reduceAdd, and_true, true_and, and_assoc, rwOf] at FX_
  clear hP hS M
  by_cases ht : (poStep hd lk n l s0).ph < 3
  · have ed : decide (3 ≤ (poStep hd lk n l s0).ph) = false := decide_eq_false (by omega)
    have er : rcPopped W cls c point slot gen P g mk cl ofs code (poStep hd lk n l s0) = rcreateOf W cls 0 (c + 1) point slot gen P g mk cl ofs code false := if_pos ht
    rw [er]
    have HED := Lib.hid ed
    clear er ht hst ed
    go_enter Tryz.func59, Tryz.ntmps59
    go_upto_region 11 with fail
    refine wp_named' (fun W1 hW1 => ?_)
    have HT : Has W1 T (rcreateOf W cls 0 (c + 1) point slot gen P g mk cl ofs code false) 127 := by rw [hW1]; (apply Has.congr; (focus ((repeat (first | (with_reducible assumption) | (with_reducible exact Has.new _ _ _) | (with_reducible exact Has.new1 _ _ _ _) | (with_reducible exact Has.new2 _ _ _ _ _) | (with_reducible refine Has.newAt ?_; (simp; done)) | (with_reducible apply Has.set) | (with_reducible apply Has.far; (case hn => first | assumption | (simp; done) | (intro e_; simp at e_; omega))) | (with_reducible apply Has.alloc) | (with_reducible apply Has.drewN) | (with_reducible apply Has.drew) | (with_reducible refine Has.keeps ?_ (by with_reducible assumption)))))); (first | rfl | (simp; done)))
    have hu0 : Upd [T] w W1 := by rw [hW1]; (repeat (first | (with_reducible exact Upd.refl _ _) | (with_reducible assumption) | (with_reducible refine Upd.setCell ?_ (by first | (left; simp; done) | (right; go_size)) _) | (with_reducible refine Upd.alloc ?_ _) | (with_reducible refine Upd.drewN ?_ _) | (with_reducible refine Upd.drew ?_)))
    clear hW1
    have nT9 : T ∉ P :: gg :: gb :: ownB v := by simp only [List.mem_cons, not_or]; exact ⟨nTP, nTg, nTb, fun h => nvT T h rfl⟩
    have FX_ := (HT).facts; simp only [blockFacts, listFacts, cellsAt, Nat.reduceAdd, and_true, true_and, and_assoc] at FX_
    go_upto_region 12 with (go_at_call 97; refine (PS.out _ hu0).mono ?_; rintro e w9 ⟨v', rfl, hu9, hP9, M9, ho⟩)
    have HT := HT.upd hu9 nT9
    have hsz := hu0.size
    have hPh := hP9.has
    rw [HED.out] at hPh
    have FX_ := (HT).facts; simp only [blockFacts, listFacts, cellsAt, Nat.reduceAdd, and_true, true_and, and_assoc] at FX_
    have FT_ := FX_
    have FX_ := (hPh).facts; simp only [blockFacts, listFacts, cellsAt, Nat.reduceAdd, and_true, true_and, and_assoc] at FX_
    have U9 : Upd (T :: P :: gg :: gb :: ownB v) w w9 := (hu0.mono (by simp)).trans (hu9.mono (fun z hz => List.mem_cons_of_mem _ hz))
    go_wp2
    go_ret
    exact ⟨v', rfl, U9, HT, hP9, M9, fun y hy => by rcases ho y hy with h | h; exact .inl h; right; omega⟩
  · have ed : decide (3 ≤ (poStep hd lk n l s0).ph) = true := decide_eq_true (by omega)
    have HED := Lib.hid ed
    have ht3 : 3 ≤ (poStep hd lk n l s0).ph := by omega
    by_cases hg : (poStep hd lk n l s0).got = []
    · have er : rcPopped W cls c point slot gen P g mk cl ofs code (poStep hd lk n l s0) = rcreateOf W cls 0 (c + 1) (c + 1) slot gen P g mk cl ofs 7 true := by unfold rcPopped; rw [if_neg ht, if_pos hg]
      rw [er]
      have HG := Lib.hid hg
      clear er ht hst ed hg
      go_enter Tryz.func59, Tryz.ntmps59
      go_upto_region 11 with fail
      refine wp_named' (fun W1 hW1 => ?_)
      have HT : Has W1 T (rcreateOf W cls 0 (c + 1) point slot gen P g mk cl ofs code false) 127 := by rw [hW1]; (apply Has.congr; (focus ((repeat (first | (with_reducible assumption) | (with_reducible exact Has.new _ _ _) | (with_reducible exact Has.new1 _ _ _ _) | (with_reducible exact Has.new2 _ _ _ _ _) | (with_reducible refine Has.newAt ?_; (simp; done)) | (with_reducible apply Has.set) | (with_reducible apply Has.far; (case hn => first | assumption | (simp; done) | (intro e_; simp at e_; omega))) | (with_reducible apply Has.alloc) | (with_reducible apply Has.drewN) | (with_reducible apply Has.drew) | (with_reducible refine Has.keeps ?_ (by with_reducible assumption)))))); (first | rfl | (simp; done)))
      have hu0 : Upd [T] w W1 := by rw [hW1]; (repeat (first | (with_reducible exact Upd.refl _ _) | (with_reducible assumption) | (with_reducible refine Upd.setCell ?_ (by first | (left; simp; done) | (right; go_size)) _) | (with_reducible refine Upd.alloc ?_ _) | (with_reducible refine Upd.drewN ?_ _) | (with_reducible refine Upd.drew ?_)))
      clear hW1
      have nT9 : T ∉ P :: gg :: gb :: ownB v := by simp only [List.mem_cons, not_or]; exact ⟨nTP, nTg, nTb, fun h => nvT T h rfl⟩
      have FX_ := (HT).facts; simp only [blockFacts, listFacts, cellsAt, Nat.reduceAdd, and_true, true_and, and_assoc] at FX_
      go_upto_region 12 with (go_at_call 97; refine (PS.out _ hu0).mono ?_; rintro e w9 ⟨v', rfl, hu9, hP9, M9, ho⟩)
      have HT := HT.upd hu9 nT9
      have hsz := hu0.size
      have hPh := hP9.has
      rw [HED.out] at hPh
      have FX_ := (HT).facts; simp only [blockFacts, listFacts, cellsAt, Nat.reduceAdd, and_true, true_and, and_assoc] at FX_
      have FT_ := FX_
      have FX_ := (hPh).facts; simp only [blockFacts, listFacts, cellsAt, Nat.reduceAdd, and_true, true_and, and_assoc] at FX_
      have U9 : Upd (T :: P :: gg :: gb :: ownB v) w w9 := (hu0.mono (by simp)).trans (hu9.mono (fun z hz => List.mem_cons_of_mem _ hz))
      have HT9 := HT
      go_upto_region 15 with fail
      refine wp_named' (fun W2 hW2 => ?_)
      have HT : Has W2 T (rcreateOf W cls 0 (c + 1) (c + 1) slot gen P g mk cl ofs code false) 127 := by rw [hW2]; (apply Has.congr; (focus ((repeat (first | (with_reducible assumption) | (with_reducible exact Has.new _ _ _) | (with_reducible exact Has.new1 _ _ _ _) | (with_reducible exact Has.new2 _ _ _ _ _) | (with_reducible refine Has.newAt ?_; (simp; done)) | (with_reducible apply Has.set) | (with_reducible apply Has.far; (case hn => first | assumption | (simp; done) | (intro e_; simp at e_; omega))) | (with_reducible apply Has.alloc) | (with_reducible apply Has.drewN) | (with_reducible apply Has.drew) | (with_reducible refine Has.keeps ?_ (by with_reducible assumption)))))); (first | rfl | (simp; done)))
      have hu2 : Upd [T] w9 W2 := by rw [hW2]; (repeat (first | (with_reducible exact Upd.refl _ _) | (with_reducible assumption) | (with_reducible refine Upd.setCell ?_ (by first | (left; simp; done) | (right; go_size)) _) | (with_reducible refine Upd.alloc ?_ _) | (with_reducible refine Upd.drewN ?_ _) | (with_reducible refine Upd.drew ?_)))
      clear hW2
      have hsz2 := hu9.size
      have nv' : ∀ y ∈ ownB v', y ∉ [T] := fun y hy => by simpa using hP9.row.ne HT9 (by decide) y hy
      have hP2 := hP9.updT hu2 (by simpa using Ne.symm nTP) nv'
      have M2 := M9.upd hu2 (by simpa using Ne.symm nTg) (by simpa using Ne.symm nTb)
      have U2 := U9.trans (hu2.mono (by simp))
      have hoo : ∀ y ∈ ownB v', y ∈ ownB v ∨ w.heap.size ≤ y := fun y hy => by rcases ho y hy with h | h; exact .inl h; right; omega
      clear FX_ FT_ hPh
      have FX_ := (HT).facts; simp only [blockFacts, listFacts, cellsAt, Nat.reduceAdd, and_true, true_and, and_assoc] at FX_
      go_wp2_with (go_at_call 98; refine (rgot_c hP2 ht3 HGL.out).mono ?_; rintro e w8 ⟨vg, rfl, hk8, hrow⟩; rw [HG.out] at hrow; obtain ⟨ga, gc, rfl, -⟩ := hrow.form; have HT := HT.keeps hk8; have FX_ := (HT).facts; simp only [blockFacts, listFacts, cellsAt, Nat.reduceAdd, and_true, true_and, and_assoc] at FX_)
      go_ret
      generalize hWf : World.setCell (World.setCell _ _ _) _ _ = Wf
      have hS : Upd [T] w8 Wf := by rw [← hWf]; (repeat (first | (with_reducible exact Upd.refl _ _) | (with_reducible assumption) | (with_reducible refine Upd.setCell ?_ (by first | (left; simp; done) | (right; go_size)) _) | (with_reducible refine Upd.alloc ?_ _) | (with_reducible refine Upd.drewN ?_ _) | (with_reducible refine Upd.drew ?_)))
      have hP8 := hP2.updT ((Upd.of_keeps (S := [T]) hk8).trans hS) (by simpa using Ne.symm nTP) nv'
      exact ⟨v', rfl, (U2.trans (Upd.of_keeps hk8)).trans (hS.mono (by simp)), by rw [← hWf]; (apply Has.congr; (focus ((repeat (first | (with_reducible assumption) | (with_reducible exact Has.new _ _ _) | (with_reducible exact Has.new1 _ _ _ _) | (with_reducible exact Has.new2 _ _ _ _ _) | (with_reducible refine Has.newAt ?_; (simp; done)) | (with_reducible apply Has.set) | (with_reducible apply Has.far; (case hn => first | assumption | (simp; done) | (intro e_; simp at e_; omega))) | (with_reducible apply Has.alloc) | (with_reducible apply Has.drewN) | (with_reducible apply Has.drew) | (with_reducible refine Has.keeps ?_ (by with_reducible assumption)))))); (first | rfl | (simp; done))), hP8, (M2.keeps hk8).upd hS (by simpa using Ne.symm nTg) (by simpa using Ne.symm nTb), hoo⟩
    · obtain ⟨z, zs, hz⟩ := List.exists_cons_of_ne_nil hg
      have er : rcPopped W cls c point slot gen P g mk cl ofs code (poStep hd lk n l s0) = rcreateOf W cls 1 (c + 1) (c + 1) z gen P g mk cl ofs code false := by unfold rcPopped; rw [if_neg ht, if_neg hg, hz]; rfl
      rw [er]
      have HG := Lib.hid hz
      clear er ht hst ed hg hz
      go_enter Tryz.func59, Tryz.ntmps59
      go_upto_region 11 with fail
      refine wp_named' (fun W1 hW1 => ?_)
      have HT : Has W1 T (rcreateOf W cls 0 (c + 1) point slot gen P g mk cl ofs code false) 127 := by rw [hW1]; (apply Has.congr; (focus ((repeat (first | (with_reducible assumption) | (with_reducible exact Has.new _ _ _) | (with_reducible exact Has.new1 _ _ _ _) | (with_reducible exact Has.new2 _ _ _ _ _) | (with_reducible refine Has.newAt ?_; (simp; done)) | (with_reducible apply Has.set) | (with_reducible apply Has.far; (case hn => first | assumption | (simp; done) | (intro e_; simp at e_; omega))) | (with_reducible apply Has.alloc) | (with_reducible apply Has.drewN) | (with_reducible apply Has.drew) | (with_reducible refine Has.keeps ?_ (by with_reducible assumption)))))); (first | rfl | (simp; done)))
      have hu0 : Upd [T] w W1 := by rw [hW1]; (repeat (first | (with_reducible exact Upd.refl _ _) | (with_reducible assumption) | (with_reducible refine Upd.setCell ?_ (by first | (left; simp; done) | (right; go_size)) _) | (with_reducible refine Upd.alloc ?_ _) | (with_reducible refine Upd.drewN ?_ _) | (with_reducible refine Upd.drew ?_)))
      clear hW1
      have nT9 : T ∉ P :: gg :: gb :: ownB v := by simp only [List.mem_cons, not_or]; exact ⟨nTP, nTg, nTb, fun h => nvT T h rfl⟩
      have FX_ := (HT).facts; simp only [blockFacts, listFacts, cellsAt, Nat.reduceAdd, and_true, true_and, and_assoc] at FX_
      go_upto_region 12 with (go_at_call 97; refine (PS.out _ hu0).mono ?_; rintro e w9 ⟨v', rfl, hu9, hP9, M9, ho⟩)
      have HT := HT.upd hu9 nT9
      have hsz := hu0.size
      have hPh := hP9.has
      rw [HED.out] at hPh
      have FX_ := (HT).facts; simp only [blockFacts, listFacts, cellsAt, Nat.reduceAdd, and_true, true_and, and_assoc] at FX_
      have FT_ := FX_
      have FX_ := (hPh).facts; simp only [blockFacts, listFacts, cellsAt, Nat.reduceAdd, and_true, true_and, and_assoc] at FX_
      have U9 : Upd (T :: P :: gg :: gb :: ownB v) w w9 := (hu0.mono (by simp)).trans (hu9.mono (fun z hz => List.mem_cons_of_mem _ hz))
      have HT9 := HT
      go_upto_region 15 with fail
      refine wp_named' (fun W2 hW2 => ?_)
      have HT : Has W2 T (rcreateOf W cls 0 (c + 1) (c + 1) slot gen P g mk cl ofs code false) 127 := by rw [hW2]; (apply Has.congr; (focus ((repeat (first | (with_reducible assumption) | (with_reducible exact Has.new _ _ _) | (with_reducible exact Has.new1 _ _ _ _) | (with_reducible exact Has.new2 _ _ _ _ _) | (with_reducible refine Has.newAt ?_; (simp; done)) | (with_reducible apply Has.set) | (with_reducible apply Has.far; (case hn => first | assumption | (simp; done) | (intro e_; simp at e_; omega))) | (with_reducible apply Has.alloc) | (with_reducible apply Has.drewN) | (with_reducible apply Has.drew) | (with_reducible refine Has.keeps ?_ (by with_reducible assumption)))))); (first | rfl | (simp; done)))
      have hu2 : Upd [T] w9 W2 := by rw [hW2]; (repeat (first | (with_reducible exact Upd.refl _ _) | (with_reducible assumption) | (with_reducible refine Upd.setCell ?_ (by first | (left; simp; done) | (right; go_size)) _) | (with_reducible refine Upd.alloc ?_ _) | (with_reducible refine Upd.drewN ?_ _) | (with_reducible refine Upd.drew ?_)))
      clear hW2
      have hsz2 := hu9.size
      have nv' : ∀ y ∈ ownB v', y ∉ [T] := fun y hy => by simpa using hP9.row.ne HT9 (by decide) y hy
      have hP2 := hP9.updT hu2 (by simpa using Ne.symm nTP) nv'
      have M2 := M9.upd hu2 (by simpa using Ne.symm nTg) (by simpa using Ne.symm nTb)
      have U2 := U9.trans (hu2.mono (by simp))
      have hoo : ∀ y ∈ ownB v', y ∈ ownB v ∨ w.heap.size ≤ y := fun y hy => by rcases ho y hy with h | h; exact .inl h; right; omega
      clear FX_ FT_ hPh
      have FX_ := (HT).facts; simp only [blockFacts, listFacts, cellsAt, Nat.reduceAdd, and_true, true_and, and_assoc] at FX_
      go_wp2_with (go_at_call 98; refine (rgot_c hP2 ht3 HGL.out).mono ?_; rintro e w8 ⟨vg, rfl, hk8, hrow⟩; rw [HG.out] at hrow; obtain ⟨ga, gc, rfl, hgc⟩ := hrow.form; obtain ⟨lb, rfl, -, -, hcell⟩ := hgc (by simp [ivals]); have hz0 := hcell 0 (.int .i64 z) (by simp [ivals]); have hlz : ¬ (((ivals (z :: zs)).length : Int) = 0) := (by simp [ivals]; omega); have hlz2 : (0 : Int) < (ivals (z :: zs)).length := (by omega); clear hcell hgc; generalize (ivals (z :: zs)).length = lz at *; have HT := HT.keeps hk8; have FX_ := (HT).facts; simp only [blockFacts, listFacts, cellsAt, Nat.reduceAdd, and_true, true_and, and_assoc] at FX_)
      go_ret
      generalize hWf : World.setCell (World.setCell _ _ _) _ _ = Wf
      have hS : Upd [T] w8 Wf := by rw [← hWf]; (repeat (first | (with_reducible exact Upd.refl _ _) | (with_reducible assumption) | (with_reducible refine Upd.setCell ?_ (by first | (left; simp; done) | (right; go_size)) _) | (with_reducible refine Upd.alloc ?_ _) | (with_reducible refine Upd.drewN ?_ _) | (with_reducible refine Upd.drew ?_)))
      have hP8 := hP2.updT ((Upd.of_keeps (S := [T]) hk8).trans hS) (by simpa using Ne.symm nTP) nv'
      exact ⟨v', rfl, (U2.trans (Upd.of_keeps hk8)).trans (hS.mono (by simp)), by rw [← hWf]; (apply Has.congr; (focus ((repeat (first | (with_reducible assumption) | (with_reducible exact Has.new _ _ _) | (with_reducible exact Has.new1 _ _ _ _) | (with_reducible exact Has.new2 _ _ _ _ _) | (with_reducible refine Has.newAt ?_; (simp; done)) | (with_reducible apply Has.set) | (with_reducible apply Has.far; (case hn => first | assumption | (simp; done) | (intro e_; simp at e_; omega))) | (with_reducible apply Has.alloc) | (with_reducible apply Has.drewN) | (with_reducible apply Has.drew) | (with_reducible refine Has.keeps ?_ (by with_reducible assumption)))))); (first | rfl | (simp; done))), hP8, (M2.keeps hk8).upd hS (by simpa using Ne.symm nTg) (by simpa using Ne.symm nTb), hoo⟩
end
end Go.Proofs.YtaecapjicphdkaaGreat

/- The document's Create (layer 11) as a plain machine. -/
namespace Go.Proofs.YtaecapjicphdkaaGreat
set_option linter.unusedVariables false
set_option linter.unusedSimpArgs false
open Go Go.RowKit
set_option maxRecDepth 100000
set_option maxHeartbeats 1000000

structure RCrRep (w : World) (B T P W Sp : Nat) (cls : Int) (v : Value) (s : Cr) : Prop where
  has : ∃ a slot gen g mk cl ofs, Has w T (rcreateOf W cls a s.c s.point slot gen P g mk cl ofs s.code (decide (3 ≤ s.ph))) 127 ∧ (s.ph < 3 → a = s.ph) ∧ (s.ph = 1 ∨ s.ph = 2 → slot = s.slot) ∧ (s.ph = 2 → genN g = s.g ∧ 0 ≤ g ∧ s.mark = 1 ∧ s.cl = cls ∧ s.ofs = 0) ∧ (3 ≤ s.ph → s.code = 0 → slot = s.slot ∧ gen = s.g)
  pop : RPoRep w B P Sp v s.pop
section
variable {w : World} {W gg gb N T P q Sp hd lk n B ra : Nat} {l : List Int} {cc C : Int} {v : Value} {cls : Int} {s : Cr} {p k d sn cz b : Int} {Pl Sv E : Value}
theorem RCrRep.upd {w' : World} {S : List Nat} (h : RCrRep w B T P W Sp cls v s) (hu : Upd S w w') (h1 : T ∉ S) (h2 : P ∉ S) (h3 : ∀ y ∈ ownB v, y ∉ S) : RCrRep w' B T P W Sp cls v s := by
  obtain ⟨⟨a, slot, gen, g, mk, cl, ofs, hT, rest⟩, hp⟩ := h
  exact ⟨⟨a, slot, gen, g, mk, cl, ofs, hT.upd hu h1, rest⟩, hp.updT hu h2 h3⟩
/-- What the tests of the law read. -/
theorem RCrRep.hasT (h : RCrRep w B T P W Sp cls v s) : ∃ cs, Has w T cs 127 := by
  obtain ⟨⟨a, slot, gen, g, mk, cl, ofs, hT, rest⟩, hp⟩ := h
  exact ⟨_, hT⟩
theorem RCrRep.of {a slot gen g mk cl ofs c slot0 point g0 mk0 cl0 ofs0 code : Int} {ph : Nat} {pop : Po} (hT : Has w T (rcreateOf W cls a c point slot gen P g mk cl ofs code (decide (3 ≤ ph))) 127) (e1 : ph < 3 → a = ph) (e2 : ph = 1 ∨ ph = 2 → slot = slot0) (e3 : ph = 2 → genN g = g0 ∧ 0 ≤ g ∧ mk0 = 1 ∧ cl0 = cls ∧ ofs0 = 0) (e4 : 3 ≤ ph → code = 0 → slot = slot0 ∧ gen = g0) (hp : RPoRep w B P Sp v pop) : RCrRep w B T P W Sp cls v ⟨ph, c, slot0, point, g0, mk0, cl0, ofs0, code, pop⟩ :=
  ⟨⟨a, slot, gen, g, mk, cl, ofs, hT, e1, e2, e3, e4⟩, hp⟩
theorem rcrStep_c (hg : RCrRep w B T P W Sp cls v s) (hW : Has w W (rwOf p k d sn cz b gg Pl Sv E) 85) (hS : Has w Sp (rstackOf gg hd lk n) 136) (M : RMem w gg gb N l cc) (L : StOk hd lk n N l) (A : RtAt p k d sn cz b ra n N) (H : CrInv n C s) (hC : C ≤ 90000) (h3 : s.ph < 3) (hB : B ≤ w.heap.size) (hcc : cc < 4611686018427387903) :
    Calls Tryz.prog 59 #[.pointer (some ⟨T, 0, none⟩)] w fun e w' => ∃ v', e = .returned (.bool true) ∧ Upd (T :: P :: gg :: gb :: ownB v) w w' ∧ RCrRep w' B T P W Sp cls v' (crStep hd lk n ra cls l s) ∧ RMem w' gg gb N (crMem hd ra l s) (cc + 1) ∧ (∀ y ∈ ownB v', y ∈ ownB v ∨ w.heap.size ≤ y) := by
  obtain ⟨ph, c, slot0, point, g0, mk0, cl0, ofs0, code, pop⟩ := s
  obtain ⟨⟨a, slot, gen, g, mk, cl, ofs, hT, e1, e2, e3, e4⟩, hp⟩ := hg
  obtain ⟨Hp, H1, H2, H3, H4⟩ := H
  dsimp only at *
  have hl2 := L.len
  have nPT : P ≠ T := hp.has.ne hT (by decide)
  have nPg : P ≠ gg := hp.has.ne M.hg (by decide)
  have nPb : P ≠ gb := hp.has.ne M.hb (by decide)
  have nvT : ∀ y ∈ ownB v, y ≠ T := hp.row.ne hT (by decide)
  have nvg : ∀ y ∈ ownB v, y ≠ gg := hp.row.ne M.hg (by decide)
  have nvb : ∀ y ∈ ownB v, y ≠ gb := hp.row.ne M.hb (by decide)
  have up3 : ∀ {a b2 : World}, Upd [T, gg, gb] a b2 → Upd (T :: P :: gg :: gb :: ownB v) a b2 := fun h => h.mono (fun y hy => by simp at hy ⊢; rcases hy with h | h | h <;> simp [h])
  have pop3 : ∀ {w2 : World}, Upd [T, gg, gb] w w2 → RPoRep w2 B P Sp v pop := fun hu => hp.updT hu (by simp; exact ⟨nPT, nPg, nPb⟩) (fun y hy => by simp; exact ⟨nvT y hy, nvg y hy, nvb y hy⟩)
  match ph, e1, e2, e3, e4, H1, H2, hT, h3 with
  | 0, e1, e2, e3, e4, H1, H2, hT, h3 =>
    obtain rfl : a = 0 := e1 (by omega)
    refine (rcr_pop (B := B) hT hW hp hS M L Hp hC (H1 rfl) hB H3 (by omega) hcc).mono ?_
    rintro e w' ⟨v', rfl, hu, h9, hp9, M9, ho⟩
    refine ⟨v', rfl, hu, ?_, M9, ho⟩
    show RCrRep w' B T P W Sp cls v' (crPopped cls ⟨0, c, slot0, point, g0, mk0, cl0, ofs0, code, pop⟩ (poStep hd lk n l pop))
    unfold rcPopped at h9
    unfold crPopped
    by_cases ht : (poStep hd lk n l pop).ph < 3
    · rw [if_pos ht] at h9 ⊢
      exact RCrRep.of h9 (by omega) (by omega) (by omega) (by omega) hp9
    · rw [if_neg ht] at h9 ⊢
      by_cases hgt : (poStep hd lk n l pop).got = []
      · rw [if_pos hgt] at h9 ⊢
        exact RCrRep.of h9 (by omega) (by omega) (by omega) (by omega) hp9
      · rw [if_neg hgt] at h9 ⊢
        exact RCrRep.of h9 (by omega) (fun _ => rfl) (by omega) (by omega) hp9
  | 1, e1, e2, e3, e4, H1, H2, hT, h3 =>
    obtain rfl : a = 1 := e1 (by omega)
    obtain rfl := e2 (.inl rfl)
    obtain ⟨s0, s1⟩ := H2 (.inl rfl)
    have hat := A.at_ slot s0 s1
    have hlt : ra + slot.toNat < l.length := by have := A.bd; omega
    have hwd := L.words (l.getD (ra + slot.toNat) 0) (by rw [List.getD_eq_getElem?_getD, List.getElem?_eq_getElem hlt]; exact List.getElem_mem hlt)
    refine (rcr_load hT hW M hat (getD_some hlt) hwd.1 hwd.2 H3 (by omega) hcc).mono ?_
    rintro e w' ⟨rfl, hu, h9, M9⟩
    exact ⟨v, rfl, up3 hu, RCrRep.of h9 (by omega) (fun _ => rfl) (fun _ => ⟨rfl, Int.ediv_nonneg hwd.1 (by omega), rfl, rfl, rfl⟩) (by omega) (pop3 hu), M9, fun y hy => .inl hy⟩
  | 2, e1, e2, e3, e4, H1, H2, hT, h3 =>
    obtain rfl : a = 2 := e1 (by omega)
    obtain rfl := e2 (.inr rfl)
    obtain ⟨s0, s1⟩ := H2 (.inr rfl)
    obtain ⟨rfl, g00, rfl, rfl, rfl⟩ := e3 rfl
    have hat := A.at_ slot s0 s1
    have hlt : ra + slot.toNat < l.length := by have := A.bd; omega
    refine (rcr_store hT hW M hat (getD_some hlt) g00 H3 (by omega) hcc).mono ?_
    rintro e w' ⟨rfl, hu, h9, M9⟩
    exact ⟨v, rfl, up3 hu, RCrRep.of h9 (by omega) (by omega) (by omega) (fun _ _ => ⟨rfl, rfl⟩) (pop3 hu), M9, fun y hy => .inl hy⟩
theorem rmkCreate_c (cls : Int) (hW : Has w W (rwOf p k d sn cz b gg Pl (.pointer (some ⟨Sp, 0, none⟩)) E) 85) :
    Calls Tryz.prog 110 #[.pointer (some ⟨W, 0, none⟩), .int .i64 cls] w fun e w' => ∃ T P, e = .returned (.pointer (some ⟨T, 0, none⟩)) ∧ Keeps w w' ∧ w.heap.size ≤ T ∧ w.heap.size ≤ P ∧ RCrRep w' w.heap.size T P W Sp (clampI cls) (.slice none 0 0) cr0 := by
  rcases (show cls < 0 ∨ (0 ≤ cls ∧ cls ≤ 3) ∨ 3 < cls by omega) with h | ⟨h, h'⟩ | h
  · have e : clampI cls = 0 := by simp only [clampI]; (repeat' split) <;> omega
    rw [e]
    clear e
    have FX_ := (hW).facts; simp only [blockFacts, listFacts, cellsAt, Nat.reduceAdd, and_true, true_and, and_assoc, rwOf] at FX_
    go_enter Tryz.func110, Tryz.ntmps110
    go_wp2_with (go_at_call 133; refine (rmkPop_c 1 1 (.inr (.inl ⟨by omega, by omega, rfl⟩))).mono ?_; rintro e w' ⟨P, rfl, hk, hP, hp⟩)
    all_goals go_ret
    all_goals exact ⟨w'.heap.size, P, rfl, hk.alloc _, hk.size, hP, RCrRep.of (a := 0) (slot := 0) (gen := 0) (g := 0) (mk := 0) (cl := 0) (ofs := 0) (Has.congr (Has.new _ _ _) rfl) (by omega) (by omega) (by omega) (by omega) ⟨hp.alloc _, Row.nil _ _ _⟩⟩
  · have e : clampI cls = cls := by simp only [clampI]; (repeat' split) <;> omega
    rw [e]
    clear e
    have FX_ := (hW).facts; simp only [blockFacts, listFacts, cellsAt, Nat.reduceAdd, and_true, true_and, and_assoc, rwOf] at FX_
    go_enter Tryz.func110, Tryz.ntmps110
    go_wp2_with (go_at_call 133; refine (rmkPop_c 1 1 (.inr (.inl ⟨by omega, by omega, rfl⟩))).mono ?_; rintro e w' ⟨P, rfl, hk, hP, hp⟩)
    all_goals go_ret
    all_goals exact ⟨w'.heap.size, P, rfl, hk.alloc _, hk.size, hP, RCrRep.of (a := 0) (slot := 0) (gen := 0) (g := 0) (mk := 0) (cl := 0) (ofs := 0) (Has.congr (Has.new _ _ _) rfl) (by omega) (by omega) (by omega) (by omega) ⟨hp.alloc _, Row.nil _ _ _⟩⟩
  · have e : clampI cls = 3 := by simp only [clampI]; (repeat' split) <;> omega
    rw [e]
    clear e
    have FX_ := (hW).facts; simp only [blockFacts, listFacts, cellsAt, Nat.reduceAdd, and_true, true_and, and_assoc, rwOf] at FX_
    go_enter Tryz.func110, Tryz.ntmps110
    go_wp2_with (go_at_call 133; refine (rmkPop_c 1 1 (.inr (.inl ⟨by omega, by omega, rfl⟩))).mono ?_; rintro e w' ⟨P, rfl, hk, hP, hp⟩)
    all_goals go_ret
    all_goals exact ⟨w'.heap.size, P, rfl, hk.alloc _, hk.size, hP, RCrRep.of (a := 0) (slot := 0) (gen := 0) (g := 0) (mk := 0) (cl := 0) (ofs := 0) (Has.congr (Has.new _ _ _) rfl) (by omega) (by omega) (by omega) (by omega) ⟨hp.alloc _, Row.nil _ _ _⟩⟩
end
end Go.Proofs.YtaecapjicphdkaaGreat
