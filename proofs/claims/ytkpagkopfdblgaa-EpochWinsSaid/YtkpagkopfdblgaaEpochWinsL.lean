/- The law EpochWins, walked. -/
import Derived.Test.YtkpagkopfdblgaaEpochF
import Derived.Test.YtkpagkopfdblgaaEpochWinsP
import Derived.Test.YtkpagkopfdblgaaRow
import Derived.LoopTactic
namespace Go.Proofs.Ytkpagkopfdblgaa
set_option linter.unusedVariables false
set_option linter.unusedSimpArgs false
open Go Go.RowKit
set_option maxRecDepth 100000
set_option maxHeartbeats 2000000

theorem info_padv : (Try.prog.info? 79).map (fun i => (i.zero, i.size, i.bytes)) = some (some (.pointer none), 1, 8) := by kernel_rfl
/-- So many machines, each in its block. -/
structure Machs (B : Nat) (w : World) (E : Nat) (gs : List Nat) (ss : List Ad) : Prop where
  len : gs.length = ss.length
  nodup : gs.Nodup
  ge : ∀ g ∈ gs, B ≤ g
  rep : ∀ (i : Nat) g s, gs[i]? = some g → ss[i]? = some s → AdRep w g E s
theorem Machs.upd {B : Nat} {w w' : World} {E : Nat} {gs : List Nat} {ss : List Ad} {S : List Nat} (h : Machs B w E gs ss) (hu : Upd S w w') (hS : ∀ g ∈ gs, g ∉ S) : Machs B w' E gs ss :=
  ⟨h.len, h.nodup, h.ge, fun i g s hg hs => (h.rep i g s hg hs).upd hu (hS g (List.mem_of_getElem? hg))⟩
theorem Machs.keeps {B : Nat} {w w' : World} {E : Nat} {gs : List Nat} {ss : List Ad} (h : Machs B w E gs ss) (k : Keeps w w') : Machs B w' E gs ss := h.upd (Upd.of_keeps (S := []) k) (by simp)
theorem Machs.lt {B : Nat} {w : World} {E : Nat} {gs : List Nat} {ss : List Ad} (h : Machs B w E gs ss) : ∀ g ∈ gs, g < w.heap.size := by
  intro g hg
  obtain ⟨i, hi, e⟩ := List.mem_iff_getElem.1 hg
  have hs : i < ss.length := by rw [← h.len]; exact hi
  exact (h.rep i g ss[i] (by rw [List.getElem?_eq_getElem hi, e]) (List.getElem?_eq_getElem hs)).lt
theorem Machs.snoc {B : Nat} {w : World} {E : Nat} {gs : List Nat} {ss : List Ad} {g : Nat} {s : Ad} (h : Machs B w E gs ss) (hg : AdRep w g E s) (hn : g ∉ gs) (hB : B ≤ g) : Machs B w E (gs ++ [g]) (ss ++ [s]) := by
  refine ⟨by simp [h.len], ?_, ?_, ?_⟩
  · rw [List.nodup_append]
    exact ⟨h.nodup, by simp, fun a ha b hb => by simp at hb; subst hb; rintro rfl; exact hn ha⟩
  · intro x hx
    rcases List.mem_append.1 hx with hx | hx
    · exact h.ge x hx
    · simp at hx; subst hx; exact hB
  · intro i x t hx ht
    rcases Nat.lt_or_ge i gs.length with hi | hi
    · rw [List.getElem?_append_left hi] at hx
      rw [List.getElem?_append_left (by rw [← h.len]; exact hi)] at ht
      exact h.rep i x t hx ht
    · rw [List.getElem?_append_right hi] at hx
      rw [List.getElem?_append_right (by rw [← h.len]; exact hi)] at ht
      rw [← h.len] at ht
      cases hk : i - gs.length with
      | zero => rw [hk] at hx ht; simp at hx ht; subst hx; subst ht; exact hg
      | succ k => rw [hk] at hx; simp at hx
theorem nodup_inj {gs : List Nat} (h : gs.Nodup) {i j g : Nat} (hi : gs[i]? = some g) (hj : gs[j]? = some g) : i = j := by
  obtain ⟨h1, e1⟩ := List.getElem?_eq_some_iff.1 hi
  obtain ⟨h2, e2⟩ := List.getElem?_eq_some_iff.1 hj
  rcases Nat.lt_trichotomy i j with hlt | heq | hlt
  · exact absurd (e1.trans e2.symm) (List.pairwise_iff_getElem.1 h i j h1 h2 hlt)
  · exact heq
  · exact absurd (e2.trans e1.symm) (List.pairwise_iff_getElem.1 h j i h2 h1 hlt)
/-- One goes on. -/
theorem Machs.step {B n : Nat} {w : World} {E m b : Nat} {gs : List Nat} {ss : List Ad} {l : List Int} {cc : Int} {x : Acc} {i g : Nat} {s : Ad} (h : Machs B w E gs ss) (hE : Has w E (epochOf m 0 1 n) 144) (M : Mem w m b (n + 1) l cc x)
    (hg : gs[i]? = some g) (hs : ss[i]? = some s) (H : AdOk n l s) (hcc : cc < 4611686018427387903) :
    Calls Try.prog 49 #[.pointer (some ⟨g, 0, none⟩)] w fun e w' => e = .returned (.bool (decide (s.ph < 3))) ∧ Upd [g, m, b] w w' ∧
      Machs B w' E gs (ss.set i (adStep n l s)) ∧ Has w' E (epochOf m 0 1 n) 144 ∧ ∃ x', Mem w' m b (n + 1) (adMem l s) (cc + adCount s) x' := by
  have hr := h.rep i g s hg hs
  have ngE : E ≠ g := (Has.ne hr hE (by decide)).symm
  have ngm : E ≠ m := hE.ne M.hg (by decide)
  have ngb : E ≠ b := hE.ne M.hb (by decide)
  refine (adStep_c hr hE M H hcc).mono ?_
  rintro e w' ⟨rfl, hu, hA, x', M'⟩
  refine ⟨rfl, hu, ⟨by simp [h.len], h.nodup, h.ge, fun j y t hy ht => ?_⟩, hE.upd hu (by simp; exact ⟨ngE, ngm, ngb⟩), x', M'⟩
  by_cases hij : j = i
  · subst hij
    rw [hg] at hy; cases hy
    have hj := (List.getElem?_eq_some_iff.1 hs).1
    rw [List.getElem?_set_self hj] at ht; cases ht
    exact hA
  · rw [List.getElem?_set_ne (fun e => hij e.symm)] at ht
    have hrj := h.rep j y t hy ht
    have hne : y ≠ g := by
      rintro rfl
      exact hij (nodup_inj h.nodup hy hg)
    have n2 := Has.ne hrj M.hg (by decide)
    have n3 := Has.ne hrj M.hb (by decide)
    exact hrj.upd hu (by simp; exact ⟨hne, n2, n3⟩)
theorem Machs.nots {B N : Nat} {w : World} {E m b : Nat} {gs : List Nat} {ss : List Ad} {l : List Int} {cc : Int} {x : Acc} (h : Machs B w E gs ss) (M : Mem w m b N l cc x) : ∀ g ∈ gs, g ≠ m ∧ g ≠ b := by
  intro g hg
  obtain ⟨i, hi, e⟩ := List.mem_iff_getElem.1 hg
  have hs : i < ss.length := by rw [← h.len]; exact hi
  have hr := h.rep i g ss[i] (by rw [List.getElem?_eq_getElem hi, e]) (List.getElem?_eq_getElem hs)
  exact ⟨Has.ne hr M.hg (by decide), Has.ne hr M.hb (by decide)⟩
theorem Machs.own {B B' : Nat} {w : World} {E n : Nat} {gs : List Nat} {ss : List Ad} {v : Value} {xs : List Value} (h : Machs B w E gs ss) (ho : w.ownsRow B' 79 1 v n xs) : ∀ g ∈ gs, g ∉ ownB v := by
  intro g hg hx
  obtain ⟨i, hi, e⟩ := List.mem_iff_getElem.1 hg
  have hs : i < ss.length := by rw [← h.len]; exact hi
  exact own_ne ho (h.rep i g ss[i] (by rw [List.getElem?_eq_getElem hi, e]) (List.getElem?_eq_getElem hs)) (by decide) g hx rfl
abbrev ad1 : Ad := ⟨1, 1, 0, 0, false⟩
/-- All that stands while they go on. -/
structure WinsAt (w wr : World) (m b E rb cap k : Nat) (gs : List Nat) (e : Int) (ss : List Ad) : Prop where
  glen : gs.length = k
  row : Row w.heap.size 79 wr (.slice (some ⟨rb, 0, none⟩) k cap) (gs.map ptr)
  machs : Machs w.heap.size wr E gs ss
  hE : Has wr E (epochOf m 0 1 (3 : Nat)) 144
  mem : ∃ x, Mem wr m b 4 (wmem e) (sumC ss) x
  wins : Wins e ss
  keeps : Keeps w wr
  hm : w.heap.size ≤ m
  hb : w.heap.size ≤ b
  k5 : k ≤ 5
section
variable {w wr : World} {m b E rb cap k : Nat} {gs : List Nat} {e : Int} {ss : List Ad}
theorem WinsAt.cell (h : WinsAt w wr m b E rb cap k gs e ss) {i g : Nat} (hg : gs[i]? = some g) : wr.cell? ⟨rb, i, none⟩ = some (ptr g) := by
  obtain ⟨a, c, hv, hc⟩ := h.row.form
  cases hv
  obtain ⟨b', hb', _, _, hcell⟩ := hc (by intro hn; have := (List.getElem?_eq_some_iff.1 hg).1; simp at hn; rw [hn] at this; simp at this)
  cases hb'
  exact hcell i _ (by simp [hg])
theorem WinsAt.slen (h : WinsAt w wr m b E rb cap k gs e ss) : ss.length = k := by rw [← h.machs.len]; exact h.glen
theorem WinsAt.step (h : WinsAt w wr m b E rb cap k gs e ss) {i g : Nat} {s : Ad} (hg : gs[i]? = some g) (hs : ss[i]? = some s) :
    Calls Try.prog 49 #[.pointer (some ⟨g, 0, none⟩)] wr fun y w' => y = .returned (.bool (decide (s.ph < 3))) ∧ ∃ e2, WinsAt w w' m b E rb cap k gs e2 (ss.set i (adStep 3 (wmem e) s)) := by
  obtain ⟨x, M⟩ := h.mem
  have hbd := sumC_bd h.wins.ok
  have hk5 := h.k5
  have hsl := h.slen
  have hmem := List.mem_of_getElem? hs
  refine (h.machs.step h.hE M hg hs (h.wins.adOk hmem) (by omega)).mono ?_
  rintro y w' ⟨rfl, hu, HM, HE, x', M'⟩
  obtain ⟨e2, he2, hw2⟩ := h.wins.step hs
  have hgm := List.mem_of_getElem? hg
  refine ⟨rfl, e2, h.glen, ?_, HM, HE, ⟨x', ?_⟩, hw2, h.keeps.upd hu (by simp; exact ⟨h.machs.ge g hgm, h.hm, h.hb⟩), h.hm, h.hb, hk5⟩
  · have n1 := h.row.ne (h.machs.rep i g s hg hs) (by decide)
    have n2 := h.row.ne M.hg (by decide)
    have n3 := h.row.ne M.hb (by decide)
    exact h.row.upd hu (fun z hz => by simp only [List.mem_cons, List.not_mem_nil, or_false, not_or]; exact ⟨n1 z hz, n2 z hz, n3 z hz⟩)
  · have e1 := sumC_set (s' := adStep 3 (wmem e) s) hs
    have e3 := adStep_count 3 (wmem e) s
    rw [e1, e3, ← he2]
    have e4 : sumC ss - s.c + (s.c + adCount s) = sumC ss + adCount s := by omega
    rw [e4]
    exact M'
end
theorem epochWins_core (n : Int) (v : Value) (zs : List Int) (k : Nat) (w : World) (hr : Reads .i64 w v zs) (hl : zs.length ≤ 100) (hk : 2 + n % 4 = k) (hk2 : 2 ≤ k) (hk5 : k ≤ 5) :
    Calls Try.prog 6 #[.int .i64 n, v] w fun e w' => e = .returned (.bool true) ∧ Keeps w w' := by
  obtain ⟨i0, hi, hz0, hz1, hz2⟩ := info_parts info_padv
  obtain ⟨a, cap, rfl, hrr⟩ := hr
  have HR := Lib.hid hrr
  obtain ⟨q, hq⟩ : ∃ q, n % 4 = q := ⟨_, rfl⟩
  have HQ := Lib.hid hq
  rw [hq] at hk
  have hk' : 2 + q = (k : Int) := hk
  obtain ⟨l0, hl0⟩ : ∃ l0 : List Int, List.replicate (3 + 1) 0 = l0 := ⟨_, rfl⟩
  have HZ := Lib.hid hl0
  have HL0 : Hid (l0 = wmem 0) := Lib.hid (by rw [← hl0]; rfl)
  clear hrr hq hk hl0
  go_enter Try.func6, Try.ntmps6
  go_wp2_with (first
    | (go_at_call 46; refine (epochFirst_c _).mono ?_; rintro e w' ⟨rfl, hk0⟩)
    | (go_at_call 15; refine (number_c _ _ _ (by omega) (by omega)).mono ?_; rintro e w' ⟨rfl, rfl⟩; rw [HQ.out])
    | (go_at_call 47; refine (epochMade_c 3 _ (by omega) (by omega)).mono ?_; rintro e w' ⟨m, b, E, rfl, hkk, hm, hb, hEs, M, HE⟩; have k0s := hk0.size; have K0 := hk0.trans hkk; have hm := Nat.le_trans k0s hm; have hb := Nat.le_trans k0s hb; rw [HZ.out] at M))
  rw [HL0.out] at M
  go_loopw [9, 10] (fun v i wr => ∃ (j : Nat) (gs : List Nat), j ≤ k ∧ i = .int .i64 j ∧ gs.length = j ∧ Row w.heap.size 79 wr v (gs.map ptr) ∧ Machs w.heap.size wr E gs (List.replicate j ad1) ∧ Has wr E (epochOf m 0 1 (3 : Nat)) 144 ∧ (∃ x, Mem wr m b 4 (wmem 0) j x) ∧ Keeps w wr) (fun _ i _ => k - (intOf i).toNat)
  case atStart => exact ⟨0, [], by omega, rfl, rfl, Row.nil _ _ _, ⟨rfl, by simp, by simp, by simp⟩, HE, ⟨_, M⟩, K0⟩
  case round =>
    obtain ⟨j, gs, hj, rfl, hgl, R, HM, HE, ⟨x, M⟩, K0⟩ := hrel
    obtain ⟨ad, cap1, hv, _⟩ := R.form
    have hgl2 : (gs.map ptr).length = j := by simp [hgl]
    rw [hgl2] at hv
    subst hv
    by_cases hlt : j < k
    · have hlt' : (j : Int) < k := by omega
      have hown : wr.ownsRow w.heap.size 79 1 (.slice ad j cap1) j (gs.map ptr) := by
        have h := R
        unfold Row at h
        rwa [hgl2] at h
      have HD0 : Hid (decide (ad0.ph < 3) = true) := Lib.hid rfl
      have HOk : Hid (AdOk 3 (wmem 0) ad0) := Lib.hid ⟨rfl, by omega, by omega, by decide, by decide, by decide, by decide, by decide, by decide, by decide⟩
      have hltg := HM.lt
      go_wp2_with (first
        | (go_at_call 48; refine (adNew_c HE).mono ?_; rintro e w' ⟨g, rfl, hk2_, hgs, HA⟩; have M := M.keeps hk2_; have HE := HE.keeps hk2_; have HM := HM.keeps hk2_; have hown := own_keeps hown hk2_; have hg2 := Nat.le_trans K0.size hgs; have K1 := K0.trans hk2_; have nr1 := own_ne hown HA (by decide); have nr2 := own_ne hown M.hg (by decide); have nr3 := own_ne hown M.hb (by decide); have nr4 := own_ne hown HE (by decide); have nr5 := HM.own hown; have nE1 := Has.ne HE HA (by decide); have nE2 := Has.ne HE M.hg (by decide); have nE3 := Has.ne HE M.hb (by decide); have hng : g ∉ gs := fun hx => (by have := hltg g hx; omega); have nm := HM.nots M)
        | (go_at_call 49; refine (adStep_c HA HE M HOk.out (by omega)).mono ?_; rintro e w' ⟨rfl, hu, HA, x1, M⟩; rw [HD0.out]; have HE := HE.upd hu (by simp; exact ⟨nE1, nE2, nE3⟩); have HM := HM.upd hu (fun y hy => by simp; exact ⟨fun e => hng (e ▸ hy), nm y hy⟩); have hown := own_upd hown hu (fun y hy => by simp; exact ⟨nr1 y hy, nr2 y hy, nr3 y hy⟩); have K2 := K1.upd hu (by simp; exact ⟨hg2, hm, hb⟩); have sz2 := K2.size)
        | (at_builtin; refine wpList_append_own _ rfl _ _ 78 rfl w.heap.size 79 i0 _ 1 8 Try.underlying78 hi hz0 hz1 hz2 rfl (by decide) _ _ _ rfl (own_keeps hown ((Keeps.refl _).alloc _)) ⟨w'.heap.size, 0, none⟩ 1 1 [ptr g] rfl rfl (news_one (Has.new _ _ _)) (by intro u hu; simp at hu; subst hu; rfl) (by unfold maxLen; omega) (by omega) (by simp; omega) ?_; intro v1 w1 hown1 hgrow1 hnil1; have hU := Upd.grown hgrow1; have HE := (HE.alloc (.cells #[ptr g] 79)).upd hU (fun hx => nr4 _ hx rfl); have M := (M.alloc (.cells #[ptr g] 79)).upd hU (fun hx => nr2 _ hx rfl) (fun hx => nr3 _ hx rfl); have HM := (HM.keeps ((Keeps.refl _).alloc (.cells #[ptr g] 79))).upd hU nr5; have HA := (Has.alloc HA (.cells #[ptr g] 79)).upd hU (fun hx => nr1 _ hx rfl); have K3 := (K2.alloc (.cells #[ptr g] 79)).upd hU (fun y hy => (own_lt hown y hy).1); obtain ⟨a1, cap2, hv1⟩ := own_form hown1; subst hv1))
      go_roundw
      case rel =>
        refine ⟨j + 1, gs ++ [g], by omega, by go_num, by simp [hgl], ?_, ?_, HE, ⟨_, M⟩, K3⟩
        · have h := Row.snoc hown1 (by simp [hgl])
          simpa using h
        · rw [List.replicate_succ']
          exact HM.snoc HA hng hg2
      case measure => simp [intOf]; omega
    · have hjk : k = j := by omega
      have hne : gs.map ptr ≠ [] := by
        intro hn
        have h9 := congrArg List.length hn
        rw [List.length_map, hgl] at h9
        simp at h9
        omega
      obtain ⟨a9, c9, hv9, hc9⟩ := R.form
      simp only [hgl2] at hv9
      cases hv9
      obtain ⟨rb, rfl, hrB, hrl, hcell⟩ := hc9 hne
      subst hjk
      have W0 : WinsAt w wr m b E rb cap1 k gs 0 (List.replicate k ad1) := by
        refine ⟨hgl, R, HM, HE, ⟨x, ?_⟩, ⟨.inl rfl, ?_, ?_, ?_⟩, K0, hm, hb, hk5⟩
        · have e1 : ∀ j : Nat, sumC (List.replicate j ad1) = j := by
            intro j
            induction j with
            | zero => rfl
            | succ j ih => rw [List.replicate_succ]; simp only [sumC, ih]; omega
          rw [e1]; exact M
        · intro s hs; have := List.eq_of_mem_replicate hs; subst this; exact ⟨rfl, .inl ⟨rfl, rfl, by decide, by decide, rfl⟩⟩
        · have e1 : ∀ j : Nat, cntW (List.replicate j ad1) = 0 := by
            intro j
            induction j with
            | zero => rfl
            | succ j ih => rw [List.replicate_succ]; simp only [cntW, ih]; rfl
          exact e1 _
        · intro _ s hs; have := List.eq_of_mem_replicate hs; subst this; decide
      clear R HM HE M K0 hcell
      have hnk : ¬ (k : Int) < k := by omega
      go_wp2
      go_loopw [12] (fun i w2 => ∃ (j : Nat) (e : Int) (ss : List Ad), j ≤ zs.length ∧ i = .int .i64 j ∧ WinsAt w w2 m b E rb cap1 k gs e ss) (fun i _ => zs.length - (intOf i).toNat)
      case atStart => exact ⟨0, 0, _, by omega, rfl, W0⟩
      case round =>
        obtain ⟨j, e, ss, hj, rfl, W1⟩ := hrel
        by_cases hlt : j < zs.length
        · obtain ⟨ab, off, rfl, hab, hc⟩ := HR.out (by rintro rfl; simp at hlt)
          have c1 := hc j zs[j] (List.getElem?_eq_getElem hlt)
          rw [← W1.keeps.cell hab] at c1
          clear hc
          generalize zs[j] = z at *
          have hz := mod_bd z k (by omega)
          obtain ⟨r, hr⟩ := Int.eq_ofNat_of_zero_le hz.1
          have hrk : r < k := by omega
          have HRr := Lib.hid hr
          clear hr hz
          obtain ⟨g, hg⟩ : ∃ g, gs[r]? = some g := ⟨_, List.getElem?_eq_getElem (by rw [W1.glen]; exact hrk)⟩
          obtain ⟨s, hs⟩ : ∃ s, ss[r]? = some s := ⟨_, List.getElem?_eq_getElem (by rw [W1.slen]; exact hrk)⟩
          have c2 := W1.cell hg
          have HG := Lib.hid hg
          have HS := Lib.hid hs
          clear hg hs
          have hrk' : (r : Int) < k := by omega
          go_wp2_with (first
            | (go_at_call 15; refine (number_c _ _ _ (by omega) (by omega)).mono ?_; rintro e w' ⟨rfl, rfl⟩; rw [HRr.out])
            | (go_at_call 49; refine (W1.step HG.out HS.out).mono ?_; rintro e w' ⟨rfl, e2, W2⟩))
          go_roundw
          case rel => exact ⟨j + 1, e2, _, by omega, by go_num, W2⟩
          case measure => simp [intOf]; omega
        · obtain rfl : j = zs.length := by omega
          have hnl : ¬ (zs.length : Int) < zs.length := by omega
          go_wp2
          go_loopw [13, 14] (fun wv i w2 => ∃ (i' : Nat) (e : Int) (ss : List Ad), i' ≤ k ∧ i = .int .i64 i' ∧ wv = .int .i64 (cntW (ss.take i')) ∧ Hid (∀ j, j < i' → ∀ s, ss[j]? = some s → s.ph = 3) ∧ WinsAt w w2 m b E rb cap1 k gs e ss) (fun _ i _ => k - (intOf i).toNat)
          case atStart => exact ⟨0, e, ss, by omega, rfl, rfl, Lib.hid (fun j hj => by omega), W1⟩
          case round =>
            obtain ⟨i, e, ss, hik, rfl, rfl, hdone, W3⟩ := hrel
            obtain ⟨x3, M3⟩ := W3.mem
            by_cases hlt : i < k
            · have hlt' : (i : Int) < k := by omega
              obtain ⟨g, hg⟩ : ∃ g, gs[i]? = some g := ⟨_, List.getElem?_eq_getElem (by rw [W3.glen]; exact hlt)⟩
              obtain ⟨s0, hs0⟩ : ∃ s, ss[i]? = some s := ⟨_, List.getElem?_eq_getElem (by rw [W3.slen]; exact hlt)⟩
              have HG := Lib.hid hg
              have hc0 : 1 ≤ s0.c := by have h := (W3.wins.ok s0 (List.mem_of_getElem? hs0)).2; rcases h with h | h | h <;> omega
              have HS0 := Lib.hid hs0
              obtain ⟨cw, hcw⟩ : ∃ cw, cntW (ss.take i) = cw := ⟨_, rfl⟩
              have HCW := Lib.hid hcw
              rw [hcw]
              have hcb : 0 ≤ cw ∧ cw ≤ 1 := by have h1 := cntW_take_le ss i; have h2 := W3.wins.cnt; have h3 := W3.wins.e01; omega
              clear hg hs0 hcw M3
              go_wp2
              go_loopw [15] (fun tv w4 => ∃ (t : Nat) (e2 : Int) (s2 : Ad) (ss2 : List Ad), t ≤ 6 ∧ tv = .int .i64 t ∧ WinsAt w w4 m b E rb cap1 k gs e2 ss2 ∧ Hid (ss2.take i = ss.take i) ∧ Hid (ss2[i]? = some s2) ∧ (s2.ph = 3 ∨ (1 + t : Int) ≤ s2.c)) (fun tv _ => 6 - (intOf tv).toNat)
              case atStart => exact ⟨0, e, s0, ss, by omega, rfl, W3, Lib.hid rfl, HS0, .inr (by omega)⟩
              case round =>
                obtain ⟨t, e2, s2, ss2, ht, rfl, W4, htake, hs2, hc2⟩ := hrel
                have c2 := W4.cell HG.out
                by_cases ht6 : (t : Int) < 6
                · go_wp2_with (go_at_call 49; refine (W4.step HG.out hs2.out).mono ?_; rintro e w' ⟨rfl, e5, W5⟩)
                  go_roundw
                  case rel =>
                    have hsl := W4.slen
                    have hw := wstep W4.wins.e01 (W4.wins.ok s2 (List.mem_of_getElem? hs2.out))
                    refine ⟨t + 1, e5, adStep 3 (wmem e2) s2, _, by omega, by go_num, W5, Lib.hid ?_, Lib.hid (List.getElem?_set_self (by omega)), ?_⟩
                    · rw [List.take_set_of_le (by omega)]; exact htake.out
                    · by_cases h3 : s2.ph = 3
                      · left; rw [(hw.2.1 h3).1]; exact h3
                      · right; rw [hw.2.2.1 h3]; rcases hc2 with h | h
                        · exact absurd h h3
                        · push_cast; omega
                  case measure => simp [intOf]; omega
                · obtain rfl : t = 6 := by omega
                  have hsl := W4.slen
                  have hmem := List.mem_of_getElem? hs2.out
                  have hp3 : s2.ph = 3 := by
                    rcases hc2 with h | h
                    · exact h
                    · have hk := (W4.wins.ok s2 hmem).2
                      rcases hk with hk | hk | hk
                      · omega
                      · omega
                      · exact hk.1
                  have hrep := W4.machs.rep i g s2 HG.out hs2.out
                  have HD : Hid (decide (3 ≤ s2.ph) = true) := Lib.hid (by rw [hp3]; rfl)
                  obtain ⟨wb, hwb⟩ : ∃ wb, s2.won = wb := ⟨_, rfl⟩
                  have HW := Lib.hid hwb
                  have hfin : Hid (∀ j, j < i + 1 → ∀ s, ss2[j]? = some s → s.ph = 3) := Lib.hid (fun j hj s hs => by
                    by_cases hji : j = i
                    · subst hji; rw [hs2.out] at hs; cases hs; exact hp3
                    · refine hdone.out j (by omega) s ?_
                      have h1 : (ss2.take i)[j]? = some s := by rw [List.getElem?_take_of_lt (by omega)]; exact hs
                      rw [htake.out, List.getElem?_take_of_lt (by omega)] at h1
                      exact h1)
                  have hcnt : Hid (cntW (ss2.take (i + 1)) = cw + (if wb then 1 else 0)) := Lib.hid (by
                    rw [cntW_take hs2.out, htake.out, HCW.out]; unfold wonI; rw [hwb])
                  clear hwb
                  cases wb
                  all_goals
                    go_wp2_with (first
                      | (go_at_call 50; refine (adDone_c hrep).mono ?_; rintro e w' ⟨rfl, rfl⟩; rw [HD.out])
                      | (go_at_call 51; refine (adWon_c hrep).mono ?_; rintro e w' ⟨rfl, rfl⟩; rw [HW.out]))
                    go_roundw
                    case rel =>
                      refine ⟨i + 1, e2, ss2, by omega, by go_num, ?_, hfin, W4⟩
                      rw [hcnt.out]
                      simp
                    case measure => simp [intOf]; omega
            · have hki : k = i := by omega
              subst hki
              have hsl := W3.slen
              have hall : ∀ s ∈ ss, s.ph = 3 := by
                intro s hs
                obtain ⟨j, hj, e9⟩ := List.mem_iff_getElem.1 hs
                exact hdone.out j (by omega) s (by rw [List.getElem?_eq_getElem hj, e9])
              have he1 : e = 1 := by
                rcases W3.wins.e01 with h0 | h1
                · exfalso
                  have hj : 0 < ss.length := by omega
                  exact W3.wins.none h0 ss[0] (List.getElem_mem hj) (hall _ (List.getElem_mem hj))
                · exact h1
              subst he1
              have hc5 : sumC ss = 5 * (k : Int) := by
                rw [sumC_all (fun s hs => by
                  have h := (W3.wins.ok s hs).2
                  have h3 := hall s hs
                  rcases h with h | h | h <;> omega), hsl]
              have hcn : cntW (ss.take k) = 1 := by rw [← hsl, List.take_length]; exact W3.wins.cnt
              rw [hc5] at M3
              rw [hcn]
              have HE := W3.hE
              have K3 := W3.keeps
              have HC1 : Hid (cutI 1 = 1) := Lib.hid rfl
              have hnk2 : ¬ (k : Int) < k := by omega
              clear hall hcn hc5 hdone
              go_wp2_with (first
                | (go_at_call 52; refine (now_c (a := 0) HE M3 rfl (by omega)).mono ?_; rintro e w' ⟨rfl, hk9⟩; have M3 := M3.keeps hk9; have K3 := K3.trans hk9; rw [HC1.out])
                | (go_at_call 45; refine (mcount M3).mono ?_; rintro e w' ⟨rfl, rfl⟩))
              go_ret
              exact ⟨rfl, K3⟩
theorem epochWins_c (n : Int) (v : Value) (zs : List Int) (w : World) (hr : Reads .i64 w v zs) : Calls Try.prog 6 #[.int .i64 n, v] w fun e w' => e = .returned (.bool true) ∧ Keeps w w' := by
  by_cases hl : zs.length ≤ 100
  · have b1 := mod_bd n 4 (by omega)
    obtain ⟨k, hk⟩ := Int.eq_ofNat_of_zero_le (show 0 ≤ 2 + n % 4 by omega)
    exact epochWins_core n v zs k w hr hl hk (by omega) (by omega)
  · obtain ⟨a, cap, rfl, hrr⟩ := hr
    clear hrr
    go_enter Try.func6, Try.ntmps6
    go_wp2_with (go_at_call 46; refine (epochFirst_c _).mono ?_; rintro e w' ⟨rfl, hk0⟩)
    go_ret
    exact ⟨rfl, hk0⟩
end Go.Proofs.Ytkpagkopfdblgaa
