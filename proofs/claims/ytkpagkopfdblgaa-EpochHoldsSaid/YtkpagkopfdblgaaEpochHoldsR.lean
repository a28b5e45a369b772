/- The relation of EpochHolds, and what each call does to it. -/
import Derived.Test.YtkpagkopfdblgaaEpochF
import Derived.Test.YtkpagkopfdblgaaEpochHoldsP
import Derived.Test.YtkpagkopfdblgaaRow
namespace Go.Proofs.Ytkpagkopfdblgaa
set_option linter.unusedVariables false
set_option linter.unusedSimpArgs false
open Go Go.RowKit
set_option maxRecDepth 100000
set_option maxHeartbeats 1000000

/-- The blocks of a list of machines that are there or not. -/
def blks {α : Type} (os : List (Option (Nat × α))) : List (Option Nat) := os.map (Option.map Prod.fst)
theorem blks_at {α : Type} {os : List (Option (Nat × α))} {i : Nat} {o : Option (Nat × α)} (h : os[i]? = some o) : (blks os)[i]? = some (o.map Prod.fst) := by
  simp [blks, h]
theorem blks_set {α : Type} (os : List (Option (Nat × α))) (i : Nat) (o : Option (Nat × α)) : (blks os).set i (o.map Prod.fst) = blks (os.set i o) := by
  simp [blks]
theorem blks_same {α : Type} {os : List (Option (Nat × α))} {i g : Nat} {s : α} (t : α) (h : os[i]? = some (some (g, s))) : blks (os.set i (some (g, t))) = blks os := by
  rw [← blks_set]
  have e := blks_at h
  obtain ⟨hi, e2⟩ := List.getElem?_eq_some_iff.1 e
  simp only [Option.map_some] at e2 ⊢
  rw [← e2, List.set_getElem_self]
/-- Machines that are there or not, each in its block. -/
structure Opts {α : Type} (R : Nat → Nat → α → Prop) (os : List (Option (Nat × α))) : Prop where
  len : os.length = 4
  rep : ∀ (i : Nat) g s, os[i]? = some (some (g, s)) → R i g s
  dis : ∀ (i j : Nat) g s t, os[i]? = some (some (g, s)) → os[j]? = some (some (g, t)) → i = j
theorem Opts.mono {α : Type} {R S : Nat → Nat → α → Prop} {os : List (Option (Nat × α))} (h : Opts R os) (hs : ∀ i g s, os[i]? = some (some (g, s)) → R i g s → S i g s) : Opts S os :=
  ⟨h.len, fun i g s e => hs i g s e (h.rep i g s e), h.dis⟩
theorem Opts.put {α : Type} {R S : Nat → Nat → α → Prop} {os : List (Option (Nat × α))} {i g : Nat} {s t : α} (h : Opts R os) (e : os[i]? = some (some (g, s))) (ht : S i g t)
    (old : ∀ (j k : Nat) (u : α), k ≠ g → R j k u → S j k u) : Opts S (os.set i (some (g, t))) := by
  have hi := (List.getElem?_eq_some_iff.1 e).1
  have key : ∀ (j : Nat) g' s', (os.set i (some (g, t)))[j]? = some (some (g', s')) → (j = i ∧ g' = g ∧ s' = t) ∨ (j ≠ i ∧ os[j]? = some (some (g', s'))) := by
    intro j g' s' hj
    by_cases hji : j = i
    · subst hji
      rw [List.getElem?_set_self hi] at hj
      cases hj
      exact .inl ⟨rfl, rfl, rfl⟩
    · rw [List.getElem?_set_ne (fun e => hji e.symm)] at hj
      exact .inr ⟨hji, hj⟩
  refine ⟨by simp [h.len], fun j g' s' hj => ?_, fun j k g' s' t' hj hk => ?_⟩
  · rcases key j g' s' hj with ⟨rfl, rfl, rfl⟩ | ⟨hne, hj2⟩
    · exact ht
    · exact old j g' s' (fun hh => hne (h.dis j i g s' s (hh ▸ hj2) e)) (h.rep j g' s' hj2)
  · rcases key j g' s' hj with ⟨ja, jb, jc⟩ | ⟨hne, hj2⟩ <;> rcases key k g' t' hk with ⟨ka, kb, kc⟩ | ⟨hne2, hk2⟩
    · omega
    · subst ja; subst jb; exact h.dis _ _ _ _ _ e hk2
    · subst ka; subst kb; exact h.dis _ _ _ _ _ hj2 e
    · exact h.dis _ _ _ _ _ hj2 hk2
/-- A new one, where none is. -/
theorem Opts.new {α : Type} {R : Nat → Nat → α → Prop} {os : List (Option (Nat × α))} {i g : Nat} {t : α} (h : Opts R os) (ht : R i g t) (hn : ∀ (j : Nat) s, os[j]? ≠ some (some (g, s))) : Opts R (os.set i (some (g, t))) := by
  by_cases hi : i < os.length
  · have key : ∀ (j : Nat) g' s', (os.set i (some (g, t)))[j]? = some (some (g', s')) → (j = i ∧ g' = g ∧ s' = t) ∨ (j ≠ i ∧ os[j]? = some (some (g', s'))) := by
      intro j g' s' hj
      by_cases hji : j = i
      · subst hji
        rw [List.getElem?_set_self hi] at hj
        cases hj
        exact .inl ⟨rfl, rfl, rfl⟩
      · rw [List.getElem?_set_ne (fun e => hji e.symm)] at hj
        exact .inr ⟨hji, hj⟩
    refine ⟨by simp [h.len], fun j g' s' hj => ?_, fun j k g' s' t' hj hk => ?_⟩
    · rcases key j g' s' hj with ⟨rfl, rfl, rfl⟩ | ⟨_, hj⟩
      · exact ht
      · exact h.rep j g' s' hj
    · rcases key j g' s' hj with ⟨ja, jb, jc⟩ | ⟨hne, hj2⟩ <;> rcases key k g' t' hk with ⟨ka, kb, kc⟩ | ⟨hne2, hk2⟩
      · omega
      · subst jb; exact absurd hk2 (hn _ _)
      · subst kb; exact absurd hj2 (hn _ _)
      · exact h.dis _ _ _ _ _ hj2 hk2
  · rw [List.set_eq_of_length_le (by omega)]; exact h
/-- One goes. -/
theorem Opts.drop {α : Type} {R : Nat → Nat → α → Prop} {os : List (Option (Nat × α))} {i : Nat} (h : Opts R os) : Opts R (os.set i none) := by
  have key : ∀ (j : Nat) g' s', (os.set i none)[j]? = some (some (g', s')) → os[j]? = some (some (g', s')) := by
    intro j g' s' hj
    by_cases hji : j = i
    · subst hji
      by_cases hi : j < os.length
      · rw [List.getElem?_set_self hi] at hj; cases hj
      · rw [List.set_eq_of_length_le (by omega)] at hj; exact hj
    · rw [List.getElem?_set_ne (fun e => hji e.symm)] at hj
      exact hj
  exact ⟨by simp [h.len], fun j g' s' hj => h.rep j g' s' (key j g' s' hj), fun j k g' s' t' hj hk => h.dis j k g' s' t' (key _ _ _ hj) (key _ _ _ hk)⟩
/-- All that stands behind q rounds. -/
structure HoldAt (w wr : World) (m b E nb ea aa : Nat) (q at_ : Int) (l : List Int) (n : En) (es : List (Option (Nat × En))) (as_ : List (Option (Nat × Ad))) : Prop where
  hE : Has wr E (epochOf m 0 1 (4 : Nat)) 144
  mem : ∃ cc x, Mem wr m b 5 l cc x ∧ cc ≤ q
  nrep : EnRep wr nb E n
  earr : Has wr ea (optrs (blks es)) 123
  aarr : Has wr aa (optrs (blks as_)) 124
  eopt : Opts (fun i g s => EnRep wr g E s ∧ EnGood q i s ∧ 1 ≤ i ∧ w.heap.size ≤ g ∧ g ≠ nb) es
  aopt : Opts (fun i g s => AdRep wr g E s ∧ AdGood q at_ (l.getD 0 0) s ∧ 1 ≤ i ∧ w.heap.size ≤ g) as_
  hold : Hold q at_ l n
  keeps : Keeps w wr
  hm : w.heap.size ≤ m
  hb : w.heap.size ≤ b
  hn : w.heap.size ≤ nb
  he : w.heap.size ≤ ea
  ha : w.heap.size ≤ aa
section
variable {w wr : World} {m b E nb ea aa : Nat} {q at_ : Int} {l : List Int} {n : En} {es : List (Option (Nat × En))} {as_ : List (Option (Nat × Ad))}
theorem HoldAt.adv {i g : Nat} {s : Ad} (h : HoldAt w wr m b E nb ea aa q at_ l n es as_) (hs : as_[i]? = some (some (g, s))) (hq : q ≤ 1000) :
    Calls Try.prog 49 #[.pointer (some ⟨g, 0, none⟩)] wr fun y w' => y = .returned (.bool (decide (s.ph < 3))) ∧ HoldAt w w' m b E nb ea aa (q + 1) at_ (adMem l s) n es (as_.set i (some (g, adStep 4 l s))) := by
  obtain ⟨cc, x, M, hcc⟩ := h.mem
  obtain ⟨hr, hgd, hi1, hgw⟩ := h.aopt.rep i g s hs
  obtain ⟨p1, p2, p3⟩ := h.hold.ad hgd hq
  have n1 : nb ≠ g := Has.ne h.nrep hr (by decide)
  have n2 : nb ≠ m := Has.ne h.nrep M.hg (by decide)
  have n3 : nb ≠ b := Has.ne h.nrep M.hb (by decide)
  have e1 : ea ≠ g := Has.ne h.earr hr (by decide)
  have e2 : ea ≠ m := Has.ne h.earr M.hg (by decide)
  have e3 : ea ≠ b := Has.ne h.earr M.hb (by decide)
  have a1 : aa ≠ g := Has.ne h.aarr hr (by decide)
  have a2 : aa ≠ m := Has.ne h.aarr M.hg (by decide)
  have a3 : aa ≠ b := Has.ne h.aarr M.hb (by decide)
  have E1 : E ≠ g := Has.ne h.hE hr (by decide)
  have E2 : E ≠ m := Has.ne h.hE M.hg (by decide)
  have E3 : E ≠ b := Has.ne h.hE M.hb (by decide)
  refine (adStep_c (n := 4) hr h.hE M (hgd.ok h.hold hq) (by omega)).mono ?_
  rintro y w' ⟨rfl, hu, hA, x', M'⟩
  refine ⟨rfl, h.hE.upd hu (by simp; exact ⟨E1, E2, E3⟩), ⟨_, x', M', by unfold adCount; split <;> omega⟩, Has.upd h.nrep hu (by simp; exact ⟨n1, n2, n3⟩), h.earr.upd hu (by simp; exact ⟨e1, e2, e3⟩), ?_, ?_, ?_, p1, h.keeps.upd hu (by simp; exact ⟨hgw, h.hm, h.hb⟩), h.hm, h.hb, h.hn, h.he, h.ha⟩
  · rw [blks_same _ hs]
    exact h.aarr.upd hu (by simp; exact ⟨a1, a2, a3⟩)
  · refine h.eopt.mono fun j k t hj ⟨r1, r2, r3, r4, r5⟩ => ⟨Has.upd r1 hu ?_, r2.mono (by omega), r3, r4, r5⟩
    simp
    exact ⟨Has.ne r1 hr (by decide), Has.ne r1 M.hg (by decide), Has.ne r1 M.hb (by decide)⟩
  · refine h.aopt.put hs ⟨hA, p2, hi1, hgw⟩ (fun j k t hkg ⟨r1, r2, r3, r4⟩ => ⟨Has.upd r1 hu (by simp; exact ⟨hkg, Has.ne r1 M.hg (by decide), Has.ne r1 M.hb (by decide)⟩), r2.mono (by omega) p3, r3, r4⟩)
/-- Worker 0 goes on. -/
theorem HoldAt.zero (h : HoldAt w wr m b E nb ea aa q at_ l n es as_) (hq : q ≤ 1000) (hp : n.ph < 2) :
    Calls Try.prog 69 #[.pointer (some ⟨nb, 0, none⟩)] wr fun y w' => y = .returned (.bool true) ∧
      ((n.ph = 0 → HoldAt w w' m b E nb ea aa (q + 1) at_ (enMem l n) (enStep l n) es as_) ∧ (n.ph = 1 → HoldAt w w' m b E nb ea aa (q + 1) (l.getD 0 0) (enMem l n) (enStep l n) es as_)) := by
  obtain ⟨cc, x, M, hcc⟩ := h.mem
  have hr := h.nrep
  obtain ⟨z0, z1⟩ := h.hold.zero hq hp
  have H := h.hold
  have hl0 : 0 ≤ l.getD 0 0 := Int.le_trans H.n0 H.n1
  have hep := H.ep
  have hn1 := H.n1
  have hc1 := H.c1
  have hok : EnOk 4 l n := ⟨H.len, by omega, hl0, by rw [H.who]; omega, by rw [H.who]; omega, H.n0, by omega, H.c0, by omega⟩
  have e1 : ea ≠ nb := Has.ne h.earr hr (by decide)
  have e2 : ea ≠ m := Has.ne h.earr M.hg (by decide)
  have e3 : ea ≠ b := Has.ne h.earr M.hb (by decide)
  have a1 : aa ≠ nb := Has.ne h.aarr hr (by decide)
  have a2 : aa ≠ m := Has.ne h.aarr M.hg (by decide)
  have a3 : aa ≠ b := Has.ne h.aarr M.hb (by decide)
  have E1 : E ≠ nb := Has.ne h.hE hr (by decide)
  have E2 : E ≠ m := Has.ne h.hE M.hg (by decide)
  have E3 : E ≠ b := Has.ne h.hE M.hb (by decide)
  refine (enStep_c (n := 4) hr h.hE M hok (by omega)).mono ?_
  rintro y w' ⟨rfl, hu, hA, x', M'⟩
  have hcc' : cc + enCount n ≤ q + 1 := by unfold enCount; split <;> omega
  refine ⟨by rw [decide_eq_true hp], fun h0 => ?_, fun h1 => ?_⟩
  · obtain ⟨zh, zl⟩ := z0 h0
    refine ⟨h.hE.upd hu (by simp; exact ⟨E1, E2, E3⟩), ⟨_, x', M', hcc'⟩, hA, h.earr.upd hu (by simp; exact ⟨e1, e2, e3⟩), h.aarr.upd hu (by simp; exact ⟨a1, a2, a3⟩), ?_, ?_, zh, h.keeps.upd hu (by simp; exact ⟨h.hn, h.hm, h.hb⟩), h.hm, h.hb, h.hn, h.he, h.ha⟩
    · exact h.eopt.mono fun j k t hj ⟨r1, r2, r3, r4, r5⟩ => ⟨Has.upd r1 hu (by simp; exact ⟨r5, Has.ne r1 M.hg (by decide), Has.ne r1 M.hb (by decide)⟩), r2.mono (by omega), r3, r4, r5⟩
    · exact h.aopt.mono fun j k t hj ⟨r1, r2, r3, r4⟩ => ⟨Has.upd r1 hu (by simp; exact ⟨Has.ne r1 hr (by decide), Has.ne r1 M.hg (by decide), Has.ne r1 M.hb (by decide)⟩), r2.mono (by omega) (by rw [zl]; exact Int.le_refl _), r3, r4⟩
  · obtain ⟨zh, zl⟩ := z1 h1
    have hat : at_ = -1 := by rcases H.st with h | h; exact h.2; omega
    refine ⟨h.hE.upd hu (by simp; exact ⟨E1, E2, E3⟩), ⟨_, x', M', hcc'⟩, hA, h.earr.upd hu (by simp; exact ⟨e1, e2, e3⟩), h.aarr.upd hu (by simp; exact ⟨a1, a2, a3⟩), ?_, ?_, zh, h.keeps.upd hu (by simp; exact ⟨h.hn, h.hm, h.hb⟩), h.hm, h.hb, h.hn, h.he, h.ha⟩
    · exact h.eopt.mono fun j k t hj ⟨r1, r2, r3, r4, r5⟩ => ⟨Has.upd r1 hu (by simp; exact ⟨r5, Has.ne r1 M.hg (by decide), Has.ne r1 M.hb (by decide)⟩), r2.mono (by omega), r3, r4, r5⟩
    · refine h.aopt.mono fun j k t hj ⟨r1, r2, r3, r4⟩ => ⟨Has.upd r1 hu (by simp; exact ⟨Has.ne r1 hr (by decide), Has.ne r1 M.hg (by decide), Has.ne r1 M.hb (by decide)⟩), ?_, r3, r4⟩
      rw [zl]
      rw [hat] at r2
      exact (r2.told).mono (by omega) (Int.le_refl _)
/-- Another one who enters goes on. -/
theorem HoldAt.en {i g : Nat} {s : En} (h : HoldAt w wr m b E nb ea aa q at_ l n es as_) (hs : es[i]? = some (some (g, s))) (hq : q ≤ 1000) :
    Calls Try.prog 69 #[.pointer (some ⟨g, 0, none⟩)] wr fun y w' => y = .returned (.bool (decide (s.ph < 2))) ∧ HoldAt w w' m b E nb ea aa (q + 1) at_ (enMem l s) n (es.set i (some (g, enStep l s))) as_ := by
  obtain ⟨cc, x, M, hcc⟩ := h.mem
  obtain ⟨hr, hgd, hi1, hgw, hgn⟩ := h.eopt.rep i g s hs
  obtain ⟨p1, p2, p3⟩ := h.hold.en hgd hi1 hq
  have hi4 : i < 4 := by have := (List.getElem?_eq_some_iff.1 hs).1; rw [h.eopt.len] at this; exact this
  have H := h.hold
  have hl0 : 0 ≤ l.getD 0 0 := Int.le_trans H.n0 H.n1
  have hw := hgd.who
  have hok : EnOk 4 l s := ⟨H.len, by omega, hl0, by omega, by omega, hgd.w0, by have := hgd.w1; omega, hgd.c0, by have := hgd.c1; omega⟩
  have n2 : nb ≠ m := Has.ne h.nrep M.hg (by decide)
  have n3 : nb ≠ b := Has.ne h.nrep M.hb (by decide)
  have e1 : ea ≠ g := Has.ne h.earr hr (by decide)
  have e2 : ea ≠ m := Has.ne h.earr M.hg (by decide)
  have e3 : ea ≠ b := Has.ne h.earr M.hb (by decide)
  have a1 : aa ≠ g := Has.ne h.aarr hr (by decide)
  have a2 : aa ≠ m := Has.ne h.aarr M.hg (by decide)
  have a3 : aa ≠ b := Has.ne h.aarr M.hb (by decide)
  have E1 : E ≠ g := Has.ne h.hE hr (by decide)
  have E2 : E ≠ m := Has.ne h.hE M.hg (by decide)
  have E3 : E ≠ b := Has.ne h.hE M.hb (by decide)
  refine (enStep_c (n := 4) hr h.hE M hok (by omega)).mono ?_
  rintro y w' ⟨rfl, hu, hA, x', M'⟩
  refine ⟨rfl, h.hE.upd hu (by simp; exact ⟨E1, E2, E3⟩), ⟨_, x', M', by unfold enCount; split <;> omega⟩, Has.upd h.nrep hu (by simp; exact ⟨hgn.symm, n2, n3⟩), ?_, h.aarr.upd hu (by simp; exact ⟨a1, a2, a3⟩), ?_, ?_, p1, h.keeps.upd hu (by simp; exact ⟨hgw, h.hm, h.hb⟩), h.hm, h.hb, h.hn, h.he, h.ha⟩
  · rw [blks_same _ hs]
    exact h.earr.upd hu (by simp; exact ⟨e1, e2, e3⟩)
  · exact h.eopt.put hs ⟨hA, p2, hi1, hgw, hgn⟩ (fun j k t hkg ⟨r1, r2, r3, r4, r5⟩ => ⟨Has.upd r1 hu (by simp; exact ⟨hkg, Has.ne r1 M.hg (by decide), Has.ne r1 M.hb (by decide)⟩), r2.mono (by omega), r3, r4, r5⟩)
  · exact h.aopt.mono fun j k t hj ⟨r1, r2, r3, r4⟩ => ⟨Has.upd r1 hu (by simp; exact ⟨Has.ne r1 hr (by decide), Has.ne r1 M.hg (by decide), Has.ne r1 M.hb (by decide)⟩), r2.mono (by omega) (by rw [p3]; exact Int.le_refl _), r3, r4⟩
theorem HoldAt.later {w' : World} (h : HoldAt w wr m b E nb ea aa q at_ l n es as_) (hk : Keeps wr w') : HoldAt w w' m b E nb ea aa (q + 1) at_ l n es as_ := by
  obtain ⟨cc, x, M, hcc⟩ := h.mem
  exact ⟨h.hE.keeps hk, ⟨cc, x, M.keeps hk, by omega⟩, Has.keeps h.nrep hk, h.earr.keeps hk, h.aarr.keeps hk, h.eopt.mono fun j k t hj ⟨r1, r2, r3, r4, r5⟩ => ⟨Has.keeps r1 hk, r2.mono (by omega), r3, r4, r5⟩,
    h.aopt.mono fun j k t hj ⟨r1, r2, r3, r4⟩ => ⟨Has.keeps r1 hk, r2.mono (by omega) (Int.le_refl _), r3, r4⟩, h.hold.later, h.keeps.trans hk, h.hm, h.hb, h.hn, h.he, h.ha⟩
theorem HoldAt.same {w' : World} (h : HoldAt w wr m b E nb ea aa q at_ l n es as_) (hk : Keeps wr w') : HoldAt w w' m b E nb ea aa q at_ l n es as_ := by
  obtain ⟨cc, x, M, hcc⟩ := h.mem
  exact ⟨h.hE.keeps hk, ⟨cc, x, M.keeps hk, hcc⟩, Has.keeps h.nrep hk, h.earr.keeps hk, h.aarr.keeps hk, h.eopt.mono fun j k t hj ⟨r1, r2, r3, r4, r5⟩ => ⟨Has.keeps r1 hk, r2, r3, r4, r5⟩,
    h.aopt.mono fun j k t hj ⟨r1, r2, r3, r4⟩ => ⟨Has.keeps r1 hk, r2, r3, r4⟩, h.hold, h.keeps.trans hk, h.hm, h.hb, h.hn, h.he, h.ha⟩
/-- A cell of the array of Advances turns. -/
theorem HoldAt.setA {i : Nat} {o : Option (Nat × Ad)} (h : HoldAt w wr m b E nb ea aa q at_ l n es as_) (ho : ∀ g s, o = some (g, s) → AdRep wr g E s ∧ AdGood q at_ (l.getD 0 0) s ∧ 1 ≤ i ∧ w.heap.size ≤ g ∧ ∀ (j : Nat) t, as_[j]? ≠ some (some (g, t))) :
    HoldAt w (wr.setCell ⟨aa, i, none⟩ (optr (o.map Prod.fst))) m b E nb ea aa q at_ l n es (as_.set i o) := by
  obtain ⟨cc, x, M, hcc⟩ := h.mem
  have hu : Upd [aa] wr (wr.setCell ⟨aa, i, none⟩ (optr (o.map Prod.fst))) := (Upd.refl _ _).setCell (.inl (by simp)) _
  have n1 : nb ≠ aa := Has.ne h.nrep h.aarr (by decide)
  have n2 : m ≠ aa := Has.ne M.hg h.aarr (by decide)
  have n3 : b ≠ aa := Has.ne M.hb h.aarr (by decide)
  have n4 : ea ≠ aa := Has.ne h.earr h.aarr (by decide)
  have n5 : E ≠ aa := Has.ne h.hE h.aarr (by decide)
  have haa := (h.aarr.set i (optr (o.map Prod.fst))).congr ((optrs_set _ _ _).trans (by rw [blks_set]))
  have ao := h.aopt.mono (S := fun j g s => AdRep (wr.setCell ⟨aa, i, none⟩ (optr (o.map Prod.fst))) g E s ∧ AdGood q at_ (l.getD 0 0) s ∧ 1 ≤ j ∧ w.heap.size ≤ g) fun j k t hj ⟨r1, r2, r3, r4⟩ => ⟨Has.far r1 (Has.ne r1 h.aarr (by decide)) _, r2, r3, r4⟩
  refine ⟨h.hE.upd hu (by simpa using n5), ⟨cc, x, M.upd hu (by simpa using n2) (by simpa using n3), hcc⟩, Has.upd h.nrep hu (by simpa using n1), h.earr.upd hu (by simpa using n4), haa, h.eopt.mono fun j k t hj ⟨r1, r2, r3, r4, r5⟩ => ⟨Has.upd r1 hu (by simpa using Has.ne r1 h.aarr (by decide)), r2, r3, r4, r5⟩, ?_, h.hold, h.keeps.upd hu (by simp; exact h.ha), h.hm, h.hb, h.hn, h.he, h.ha⟩
  cases o with
  | none => exact ao.drop
  | some p =>
    obtain ⟨g, s⟩ := p
    obtain ⟨r1, r2, r3, r4, r5⟩ := ho g s rfl
    exact ao.new ⟨Has.far r1 (Has.ne r1 h.aarr (by decide)) _, r2, r3, r4⟩ r5
/-- A cell of the array of Enters turns. -/
theorem HoldAt.setE {i : Nat} {o : Option (Nat × En)} (h : HoldAt w wr m b E nb ea aa q at_ l n es as_) (ho : ∀ g s, o = some (g, s) → EnRep wr g E s ∧ EnGood q i s ∧ 1 ≤ i ∧ w.heap.size ≤ g ∧ g ≠ nb ∧ ∀ (j : Nat) t, es[j]? ≠ some (some (g, t))) :
    HoldAt w (wr.setCell ⟨ea, i, none⟩ (optr (o.map Prod.fst))) m b E nb ea aa q at_ l n (es.set i o) as_ := by
  obtain ⟨cc, x, M, hcc⟩ := h.mem
  have hu : Upd [ea] wr (wr.setCell ⟨ea, i, none⟩ (optr (o.map Prod.fst))) := (Upd.refl _ _).setCell (.inl (by simp)) _
  have n1 : nb ≠ ea := Has.ne h.nrep h.earr (by decide)
  have n2 : m ≠ ea := Has.ne M.hg h.earr (by decide)
  have n3 : b ≠ ea := Has.ne M.hb h.earr (by decide)
  have n4 : aa ≠ ea := Has.ne h.aarr h.earr (by decide)
  have n5 : E ≠ ea := Has.ne h.hE h.earr (by decide)
  have hea := (h.earr.set i (optr (o.map Prod.fst))).congr ((optrs_set _ _ _).trans (by rw [blks_set]))
  have ao := h.eopt.mono (S := fun j g s => EnRep (wr.setCell ⟨ea, i, none⟩ (optr (o.map Prod.fst))) g E s ∧ EnGood q j s ∧ 1 ≤ j ∧ w.heap.size ≤ g ∧ g ≠ nb) fun j k t hj ⟨r1, r2, r3, r4, r5⟩ => ⟨Has.far r1 (Has.ne r1 h.earr (by decide)) _, r2, r3, r4, r5⟩
  refine ⟨h.hE.upd hu (by simpa using n5), ⟨cc, x, M.upd hu (by simpa using n2) (by simpa using n3), hcc⟩, Has.upd h.nrep hu (by simpa using n1), hea, h.aarr.upd hu (by simpa using n4), ?_, h.aopt.mono fun j k t hj ⟨r1, r2, r3, r4⟩ => ⟨Has.upd r1 hu (by simpa using Has.ne r1 h.earr (by decide)), r2, r3, r4⟩, h.hold, h.keeps.upd hu (by simp; exact h.he), h.hm, h.hb, h.hn, h.he, h.ha⟩
  cases o with
  | none => exact ao.drop
  | some p =>
    obtain ⟨g, s⟩ := p
    obtain ⟨r1, r2, r3, r4, r5, r6⟩ := ho g s rfl
    exact ao.new ⟨Has.far r1 (Has.ne r1 h.earr (by decide)) _, r2, r3, r4, r5⟩ r6
/-- One leaves. -/
theorem HoldAt.leave {i g : Nat} (h : HoldAt w wr m b E nb ea aa q at_ l n es as_) (hr : Has wr g (mach (bound 102 g) 0 [.pointer (some ⟨E, 0, none⟩), .int .i64 i]) 166) (hg : w.heap.size ≤ g) (hi1 : 1 ≤ i) (hi4 : i < 4) (hq : q ≤ 1000) :
    Calls Try.prog 71 #[.pointer (some ⟨g, 0, none⟩)] wr fun y w' => y = .returned (.bool true) ∧ HoldAt w w' m b E nb ea aa (q + 1) at_ (l.set ((1 : Int) + i).toNat 0) n es as_ := by
  obtain ⟨cc, x, M, hcc⟩ := h.mem
  have hq0 : 0 ≤ q := Int.le_trans h.hold.c0 h.hold.c1
  have hp := h.hold.later.put (i := ((1 : Int) + i).toNat) (v := 0) (by omega) (by omega) (by omega)
  have n1 : nb ≠ g := Has.ne h.nrep hr (by decide)
  have n2 : nb ≠ m := Has.ne h.nrep M.hg (by decide)
  have n3 : nb ≠ b := Has.ne h.nrep M.hb (by decide)
  have e1 : ea ≠ g := Has.ne h.earr hr (by decide)
  have e2 : ea ≠ m := Has.ne h.earr M.hg (by decide)
  have e3 : ea ≠ b := Has.ne h.earr M.hb (by decide)
  have a1 : aa ≠ g := Has.ne h.aarr hr (by decide)
  have a2 : aa ≠ m := Has.ne h.aarr M.hg (by decide)
  have a3 : aa ≠ b := Has.ne h.aarr M.hb (by decide)
  have E1 : E ≠ g := Has.ne h.hE hr (by decide)
  have E2 : E ≠ m := Has.ne h.hE M.hg (by decide)
  have E3 : E ≠ b := Has.ne h.hE M.hb (by decide)
  refine (levStep_c (n := 4) hr h.hE M (by omega) (by omega) (by omega) (by omega)).mono ?_
  rintro y w' ⟨rfl, hu, x', M'⟩
  refine ⟨rfl, h.hE.upd hu (by simp; exact ⟨E1, E2, E3⟩), ⟨_, x', M', by omega⟩, Has.upd h.nrep hu (by simp; exact ⟨n1, n2, n3⟩), h.earr.upd hu (by simp; exact ⟨e1, e2, e3⟩), h.aarr.upd hu (by simp; exact ⟨a1, a2, a3⟩), ?_, ?_, hp.1, h.keeps.upd hu (by simp; exact ⟨hg, h.hm, h.hb⟩), h.hm, h.hb, h.hn, h.he, h.ha⟩
  · exact h.eopt.mono fun j k t hj ⟨r1, r2, r3, r4, r5⟩ => ⟨Has.upd r1 hu (by simp; exact ⟨Has.ne r1 hr (by decide), Has.ne r1 M.hg (by decide), Has.ne r1 M.hb (by decide)⟩), r2.mono (by omega), r3, r4, r5⟩
  · exact h.aopt.mono fun j k t hj ⟨r1, r2, r3, r4⟩ => ⟨Has.upd r1 hu (by simp; exact ⟨Has.ne r1 hr (by decide), Has.ne r1 M.hg (by decide), Has.ne r1 M.hb (by decide)⟩), r2.mono (by omega) (by rw [hp.2]; exact Int.le_refl _), r3, r4⟩
/-- What the epoch is. -/
theorem HoldAt.now (h : HoldAt w wr m b E nb ea aa q at_ l n es as_) (hq : q ≤ 1000) :
    Calls Try.prog 52 #[.pointer (some ⟨E, 0, none⟩)] wr fun y w' => y = .returned (.int .i64 (l.getD 0 0)) ∧ Keeps wr w' := by
  obtain ⟨cc, x, M, hcc⟩ := h.mem
  have H := h.hold
  have hl0 : 0 ≤ l.getD 0 0 := Int.le_trans H.n0 H.n1
  have hep := H.ep
  have e := cut_small hl0 (by omega)
  have k := now_c (a := 0) h.hE M (getD_some (by rw [H.len]; omega)) hl0
  rw [e] at k
  exact k
theorem HoldAt.fresh {g : Nat} (h : HoldAt w wr m b E nb ea aa q at_ l n es as_) (hg : wr.heap.size ≤ g) : g ≠ nb ∧ (∀ (j : Nat) t, as_[j]? ≠ some (some (g, t))) ∧ (∀ (j : Nat) t, es[j]? ≠ some (some (g, t))) := by
  refine ⟨fun e => ?_, fun j t hj => ?_, fun j t hj => ?_⟩
  · have := Has.lt h.nrep; omega
  · have := Has.lt (h.aopt.rep j g t hj).1; omega
  · have := Has.lt (h.eopt.rep j g t hj).1; omega
end
end Go.Proofs.Ytkpagkopfdblgaa
