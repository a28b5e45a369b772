/- RootsPlay: what hands says, what holds between two rounds, each access. -/
import Derived.Test.YtaecapjicphdkaaGreatMg33
import Derived.Test.YtaecapjicphdkaaGreatMg35
import Derived.Deep.RegionHeld3
namespace Go.Proofs.YtaecapjicphdkaaGreat
set_option linter.unusedVariables false
set_option linter.unusedSimpArgs false
open Go Go.RowKit
set_option maxRecDepth 100000
set_option maxHeartbeats 1000000

def hkind : HMd → Nat
  | .cr _ _ => 0
  | .en _ _ _ => 1
  | .lk _ _ => 2
  | .ld _ _ _ _ => 2
  | .pu _ => 3
  | .no => 4
/-- What hands says of a worker. -/
structure HTie (H : List Value) (i : Nat) (c : HLoc) (k : HMd) : Prop where
  p : ∀ j, j < 4 → H[4 * j + i]? = some (if hkind k = j then optr c.p.head? else .pointer none)
  x : ∀ j, j < 4 → hkind k = j → H[16 + 4 * j + i]? = some (optr c.x.head?)
  h : H[32 + i]? = some c.h
structure HWs where
  md : HMd
  has : List Int
abbrev hks (ws : List HWs) : List HWk := ws.map fun k => ⟨k.md, k.md, k.has⟩
def HTies (H : List Value) (cs : List HLoc) (ws : List HWs) : Prop := ∀ (i : Nat) c k, i < 4 → cs[i]? = some c → ws[i]? = some k → HTie H i c k.md
theorem HTies.turn {H H' : List Value} {cs : List HLoc} {ws : List HWs} {i : Nat} {c : HLoc} {k : HWs} (h : HTies H cs ws) (hi : i < 4) (hcl : i < cs.length) (hwl : i < ws.length) (hH : ∀ j, j % 4 ≠ i → H'[j]? = H[j]?) (ht : HTie H' i c k.md) : HTies H' (cs.set i c) (ws.set i k) := by
  intro j d q hj hd hq
  by_cases e : j = i
  · subst e
    rw [List.getElem?_set_self hcl] at hd
    rw [List.getElem?_set_self hwl] at hq
    cases hd; cases hq
    exact ht
  · rw [List.getElem?_set_ne (fun x => e x.symm)] at hd hq
    have t := h j d q hj hd hq
    refine ⟨fun a ha => ?_, fun a ha hk => ?_, ?_⟩
    · rw [hH _ (by omega)]; exact t.p a ha
    · rw [hH _ (by omega)]; exact t.x a ha hk
    · rw [hH _ (by omega)]; exact t.h
structure EnInv (C : Int) (s : En) : Prop where
  w0 : 0 ≤ s.was
  w1 : s.was < 18446744073709551616
  c0 : 0 ≤ s.c
  c1 : s.c ≤ C
theorem EnInv.ok {C : Int} {s : En} (h : EnInv C s) (hC : C ≤ 900000) : EnOk s := ⟨h.w0, h.w1, h.c0, by have := h.c1; omega⟩
theorem EnInv.mono {C D : Int} {s : En} (h : EnInv C s) (hC : C ≤ D) : EnInv D s := ⟨h.w0, h.w1, h.c0, by have := h.c1; omega⟩
theorem EnInv.step {C gen : Int} {s : En} {q : Nat} {l : List Int} (h : EnInv C s) (hw : 0 ≤ l.getD q 0 ∧ l.getD q 0 < 18446744073709551616) : EnInv (C + 1) (enStep q gen l s) := by
  obtain ⟨ph, c, was, code, chunk, point⟩ := s
  obtain ⟨h1, h2, h3, h4⟩ := h
  dsimp only at h1 h2 h3 h4
  match ph with
  | 0 =>
    show EnInv (C + 1) (if liveW (l.getD q 0) gen then (⟨1, c + 1, l.getD q 0, code, chunk, point⟩ : En) else ⟨2, c + 1, l.getD q 0, 3, chunk, c + 1⟩)
    split <;> exact ⟨hw.1, hw.2, by show 0 ≤ c + 1; omega, by show c + 1 ≤ C + 1; omega⟩
  | 1 =>
    show EnInv (C + 1) (if l.getD q 0 = was then (⟨2, c + 1, was, code, chunkI (was / 65536 % 65536), c + 1⟩ : En) else ⟨0, c + 1, was, code, chunk, point⟩)
    split <;> exact ⟨h1, h2, by show 0 ≤ c + 1; omega, by show c + 1 ≤ C + 1; omega⟩
  | k + 2 => exact ⟨h1, h2, h3, by show c ≤ C + 1; omega⟩
theorem enStep_code {q : Nat} {gen : Int} {l : List Int} {s : En} (h : s.code = 0) : (enStep q gen l s).code = 0 ∨ ((enStep q gen l s).code = 3 ∧ 2 ≤ (enStep q gen l s).ph) := by
  obtain ⟨ph, c, was, code, chunk, point⟩ := s
  dsimp only at h
  subst h
  match ph with
  | 0 =>
    show (if liveW (l.getD q 0) gen then (⟨1, c + 1, l.getD q 0, 0, chunk, point⟩ : En) else ⟨2, c + 1, l.getD q 0, 3, chunk, c + 1⟩).code = 0 ∨ ((if liveW (l.getD q 0) gen then (⟨1, c + 1, l.getD q 0, 0, chunk, point⟩ : En) else ⟨2, c + 1, l.getD q 0, 3, chunk, c + 1⟩).code = 3 ∧ 2 ≤ (if liveW (l.getD q 0) gen then (⟨1, c + 1, l.getD q 0, 0, chunk, point⟩ : En) else ⟨2, c + 1, l.getD q 0, 3, chunk, c + 1⟩).ph)
    by_cases h : liveW (l.getD q 0) gen = true
    · rw [if_pos h]; exact .inl rfl
    · rw [if_neg h]; exact .inr ⟨rfl, Nat.le_refl 2⟩
  | 1 =>
    show (if l.getD q 0 = was then (⟨2, c + 1, was, 0, chunkI (was / 65536 % 65536), c + 1⟩ : En) else ⟨0, c + 1, was, 0, chunk, point⟩).code = 0 ∨ _
    left
    split <;> rfl
  | k + 2 => exact .inl rfl
theorem crStep_code {hd lk n ra : Nat} {cls : Int} {l : List Int} {s : Cr} (h : s.code = 0) : (crStep hd lk n ra cls l s).code = 0 ∨ ((crStep hd lk n ra cls l s).code = 7 ∧ 3 ≤ (crStep hd lk n ra cls l s).ph) := by
  obtain ⟨ph, c, slot, point, g, mark, cl, ofs, code, pop⟩ := s
  dsimp only at h
  subst h
  match ph with
  | 0 =>
    show (crPopped cls ⟨0, c, slot, point, g, mark, cl, ofs, 0, pop⟩ (poStep hd lk n l pop)).code = 0 ∨ ((crPopped cls ⟨0, c, slot, point, g, mark, cl, ofs, 0, pop⟩ (poStep hd lk n l pop)).code = 7 ∧ 3 ≤ (crPopped cls ⟨0, c, slot, point, g, mark, cl, ofs, 0, pop⟩ (poStep hd lk n l pop)).ph)
    unfold crPopped
    by_cases h1 : (poStep hd lk n l pop).ph < 3
    · rw [if_pos h1]; exact .inl rfl
    · rw [if_neg h1]
      by_cases h2 : (poStep hd lk n l pop).got = []
      · rw [if_pos h2]; exact .inr ⟨rfl, Nat.le_refl 3⟩
      · rw [if_neg h2]; exact .inl rfl
  | 1 => exact .inl rfl
  | 2 => exact .inl rfl
  | k + 3 => exact .inl rfl
/-- A machine that goes on. -/
def MdOk (n : Nat) (C : Int) : HMd → Prop
  | .no => True
  | .cr _ s => CrInv n C s ∧ s.ph < 3 ∧ s.code = 0
  | .en slot _ s => (0 ≤ slot ∧ slot < n) ∧ EnInv C s ∧ s.ph < 2 ∧ s.code = 0
  | .lk slot _ => 0 ≤ slot ∧ slot < n
  | .ld _ _ _ _ => False
  | .pu s => PuInv n C s ∧ s.ph < 4
theorem MdOk.mono {n : Nat} {C D : Int} {md : HMd} (h : MdOk n C md) (hC : C ≤ D) : MdOk n D md := by
  cases md with
  | no => trivial
  | cr cls s => exact ⟨h.1.mono hC, h.2⟩
  | en slot gen s => exact ⟨h.1, h.2.1.mono hC, h.2.2⟩
  | lk slot gen => exact h
  | ld a b c d => exact h
  | pu s => exact ⟨h.1.mono hC, h.2⟩
structure HAll (n : Nat) (C : Int) (l : List Int) (ws : List HWs) : Prop where
  ok : StOk 1 (4 + n) n (13 + 2 * n) l
  md : ∀ (i : Nat) k, ws[i]? = some k → MdOk n C k.md ∧ (∀ z ∈ k.has, 0 ≤ z ∧ z < n) ∧ (k.has.length : Int) ≤ C
theorem HAll.turn {n : Nat} {C : Int} {l l' : List Int} {ws : List HWs} {i : Nat} {k : HWs} (h : HAll n C l ws) (ok : StOk 1 (4 + n) n (13 + 2 * n) l') (h1 : MdOk n (C + 1) k.md) (h2 : ∀ z ∈ k.has, 0 ≤ z ∧ z < n) (h3 : (k.has.length : Int) ≤ C + 1) : HAll n (C + 1) l' (ws.set i k) := by
  refine ⟨ok, fun j d hd => ?_⟩
  by_cases e : j = i
  · subst e
    have hl := (List.getElem?_eq_some_iff.1 hd).1
    rw [List.length_set] at hl
    rw [List.getElem?_set_self hl] at hd
    cases hd
    exact ⟨h1, h2, h3⟩
  · rw [List.getElem?_set_ne (fun x => e x.symm)] at hd
    obtain ⟨a, b, c⟩ := h.md j d hd
    exact ⟨a.mono (by omega), b, by omega⟩
/-- All that stands between two rounds. -/
def HInv (w wr : World) (m b R S W g gb Sp hb n : Nat) (C : Int) : Prop := ∃ (l : List Int) (cc : Int) (H : List Value) (cs : List HLoc) (ws : List HWs),
  HA w wr m b R S W g gb Sp hb n l l cc cc H cs (hks ws) ∧ HTies H cs ws ∧ HAll n C l ws ∧ cc ≤ C
theorem hks_at {ws : List HWs} {i : Nat} {k : HWs} (h : ws[i]? = some k) : (hks ws)[i]? = some ⟨k.md, k.md, k.has⟩ := by simp [hks, h]
theorem hks_set (ws : List HWs) (i : Nat) (k : HWs) : (hks ws).set i ⟨k.md, k.md, k.has⟩ = hks (ws.set i k) := by simp [hks, List.map_set]
section
variable {w wr w' : World} {m b R S W g gb Sp hb n : Nat} {l l2 l' l2' : List Int} {cc c2 C : Int} {H : List Value} {cs : List HLoc} {ks : List HWk} {T : List Nat} {i y : Nat} {c c' : HLoc} {q q' : HWk} {cls slot gen : Int}
/-- His Create of the program's does an access. -/
theorem HA.crP {s : Cr} (h : HA w wr m b R S W g gb Sp hb n l l2 cc c2 H cs ks) (hc : cs[i]? = some c) (hk : ks[i]? = some q) (hmd : q.md = .cr cls s) (hp : c.p.head? = some y) (n1 : 1 ≤ n) (n4 : n ≤ 4) (L : StOk 1 (4 + n) n (13 + 2 * n) l) (I : CrInv n C s) (hC : C ≤ 80000) (h3 : s.ph < 3) (hcc : cc ≤ 1000000) :
    Calls Tryz.prog 29 #[.pointer (some ⟨y, 0, none⟩)] wr fun e w' => e = .returned (.bool true) ∧ ∃ f, HA w w' m b R S W g gb Sp hb n (crMem 1 4 l s) l2 (cc + 1) c2 H (cs.set i { c with p := y :: f }) (ks.set i { q with md := .cr cls (crStep 1 (4 + n) n 4 cls l s) }) := by
  have md := (h.gang.rep i c q hc hk).md
  rw [hmd] at md
  obtain ⟨y', pg, v, e, hr⟩ := md
  rw [e] at hp
  obtain rfl : y' = y := by simpa using hp
  obtain ⟨x, M⟩ := h.mem
  refine (crStep_c hr h.hR h.hS M L (rtAt n n1 n4) (I.ok (by omega)) h.keeps.size (by omega)).mono ?_
  rintro ee w' ⟨v', rfl, hu, hr', hM, ho⟩
  have ec : crCount s = 1 := if_pos h3
  rw [ec] at hM
  refine ⟨by rw [decide_eq_true h3], pg :: ownB v', h.stepP hc hk hu (fun z hz => ?_) hM ⟨y', pg, v', rfl, hr'⟩ (fun z hz => ?_)⟩
  · rw [e]
    simp only [List.mem_cons] at hz ⊢
    rcases hz with hz | hz | hz | hz | hz <;> simp [hz]
  · rw [e]
    simp only [List.mem_cons] at hz ⊢
    rcases hz with hz | hz | hz
    · simp [hz]
    · simp [hz]
    · rcases ho z hz with h1 | h1 <;> simp [h1]
theorem HA.crR {s : Cr} (h : HA w wr m b R S W g gb Sp hb n l l2 cc c2 H cs ks) (hc : cs[i]? = some c) (hk : ks[i]? = some q) (hmd : q.r = .cr cls s) (hp : c.x.head? = some y) (n1 : 1 ≤ n) (n4 : n ≤ 4) (L : StOk 1 (4 + n) n (13 + 2 * n) l2) (I : CrInv n C s) (hC : C ≤ 80000) (h3 : s.ph < 3) (hcc : c2 ≤ 1000000) :
    Calls Tryz.prog 59 #[.pointer (some ⟨y, 0, none⟩)] wr fun e w' => e = .returned (.bool true) ∧ ∃ f, HA w w' m b R S W g gb Sp hb n l (crMem 1 4 l2 s) cc (c2 + 1) H (cs.set i { c with x := y :: f }) (ks.set i { q with r := .cr cls (crStep 1 (4 + n) n 4 cls l2 s) }) := by
  have md := (h.gang.rep i c q hc hk).rmd
  rw [hmd] at md
  obtain ⟨y', pg, v, e, hr⟩ := md
  rw [e] at hp
  obtain rfl : y' = y := by simpa using hp
  obtain ⟨Pl, E, hW⟩ := h.hW
  refine (rcrStep_c hr hW h.hSp h.rmem L (rtAt n n1 n4) I (by omega) h3 h.keeps.size (by omega)).mono ?_
  rintro ee w' ⟨v', rfl, hu, hr', hM, ho⟩
  refine ⟨rfl, pg :: ownB v', h.stepR hc hk hu (fun z hz => ?_) hM ⟨y', pg, v', rfl, hr'⟩ (fun z hz => ?_)⟩
  · rw [e]
    simp only [List.mem_cons] at hz ⊢
    rcases hz with hz | hz | hz | hz | hz <;> simp [hz]
  · rw [e]
    simp only [List.mem_cons] at hz ⊢
    rcases hz with hz | hz | hz
    · simp [hz]
    · simp [hz]
    · rcases ho z hz with h1 | h1 <;> simp [h1]
theorem hroot_at (n1 : 1 ≤ n) (n4 : n ≤ 4) (h0 : 0 ≤ slot) (h1 : slot < n) : crootI 1 1 8 n 0 1 slot = ((4 + slot.toNat : Nat) : Int) := (rtAt n n1 n4).at_ slot h0 h1
/-- His End. -/
theorem HA.enP {s : En} (h : HA w wr m b R S W g gb Sp hb n l l2 cc c2 H cs ks) (hc : cs[i]? = some c) (hk : ks[i]? = some q) (hmd : q.md = .en slot gen s) (hp : c.p.head? = some y) (n1 : 1 ≤ n) (n4 : n ≤ 4) (L : StOk 1 (4 + n) n (13 + 2 * n) l) (h0 : 0 ≤ slot) (h1 : slot < n) (I : EnInv C s) (hC : C ≤ 80000) (h3 : s.ph < 2) (hcc : cc ≤ 1000000) :
    Calls Tryz.prog 52 #[.pointer (some ⟨y, 0, none⟩)] wr fun e w' => e = .returned (.bool true) ∧ ∃ f, HA w w' m b R S W g gb Sp hb n (enMem (4 + slot.toNat) l s) l2 (cc + 1) c2 H (cs.set i { c with p := y :: f }) (ks.set i { q with md := .en slot gen (enStep (4 + slot.toNat) gen l s) }) := by
  have md := (h.gang.rep i c q hc hk).md
  rw [hmd] at md
  obtain ⟨y', e, hr⟩ := md
  rw [e] at hp
  obtain rfl : y' = y := by simpa using hp
  obtain ⟨x, M⟩ := h.mem
  have hll := L.len
  refine (edStep_c hr h.hR M (hroot_at n1 n4 h0 h1) (by omega) L.words (I.ok (by omega)) (by omega)).mono ?_
  rintro ee w' ⟨rfl, hu, hr', hM⟩
  have ec : enCount s = 1 := if_pos h3
  rw [ec] at hM
  refine ⟨by rw [decide_eq_true h3], [], h.stepP hc hk hu (fun z hz => ?_) hM ⟨y', rfl, hr'⟩ (fun z hz => ?_)⟩
  · rw [e]
    simp only [List.mem_cons, List.not_mem_nil, or_false] at hz ⊢
    rcases hz with hz | hz | hz <;> simp [hz]
  · rw [e]; exact .inl hz
theorem HA.enR {s : En} (h : HA w wr m b R S W g gb Sp hb n l l2 cc c2 H cs ks) (hc : cs[i]? = some c) (hk : ks[i]? = some q) (hmd : q.r = .en slot gen s) (hp : c.x.head? = some y) (n1 : 1 ≤ n) (n4 : n ≤ 4) (L : StOk 1 (4 + n) n (13 + 2 * n) l2) (h0 : 0 ≤ slot) (h1 : slot < n) (I : EnInv C s) (hC : C ≤ 80000) (h3 : s.ph < 2) (hcc : c2 ≤ 1000000) :
    Calls Tryz.prog 60 #[.pointer (some ⟨y, 0, none⟩)] wr fun e w' => e = .returned (.bool true) ∧ ∃ f, HA w w' m b R S W g gb Sp hb n l (enMem (4 + slot.toNat) l2 s) cc (c2 + 1) H (cs.set i { c with x := y :: f }) (ks.set i { q with r := .en slot gen (enStep (4 + slot.toNat) gen l2 s) }) := by
  have md := (h.gang.rep i c q hc hk).rmd
  rw [hmd] at md
  obtain ⟨y', e, hr⟩ := md
  rw [e] at hp
  obtain rfl : y' = y := by simpa using hp
  obtain ⟨Pl, E, hW⟩ := h.hW
  have hll := L.len
  refine (renStep_c hr hW h.rmem (hroot_at n1 n4 h0 h1) (by omega) L.words (I.ok (by omega)) h3 (by omega)).mono ?_
  rintro ee w' ⟨rfl, hu, hr', hM⟩
  refine ⟨rfl, [], h.stepR hc hk hu (fun z hz => ?_) hM ⟨y', rfl, hr'⟩ (fun z hz => ?_)⟩
  · rw [e]
    simp only [List.mem_cons, List.not_mem_nil, or_false] at hz ⊢
    rcases hz with hz | hz | hz <;> simp [hz]
  · rw [e]; exact .inl hz
def lkCd (gen o : Int) : Int := if liveW o gen then 0 else 3
def lkOf (gen o : Int) : Int := if liveW o gen then o % 4096 else 0
/-- His Look. -/
theorem HA.lkP (h : HA w wr m b R S W g gb Sp hb n l l2 cc c2 H cs ks) (hc : cs[i]? = some c) (hk : ks[i]? = some q) (hmd : q.md = .lk slot gen) (hp : c.p.head? = some y) (n1 : 1 ≤ n) (n4 : n ≤ 4) (L : StOk 1 (4 + n) n (13 + 2 * n) l) (h0 : 0 ≤ slot) (h1 : slot < n) (hcc : cc ≤ 1000000) :
    Calls Tryz.prog 21 #[.pointer (some ⟨y, 0, none⟩)] wr fun e w' => e = .returned (.bool true) ∧ ∃ f, HA w w' m b R S W g gb Sp hb n l l2 (cc + 1) c2 H (cs.set i { c with p := y :: f }) (ks.set i { q with md := .ld slot gen (lkCd gen (l.getD (4 + slot.toNat) 0)) (lkOf gen (l.getD (4 + slot.toNat) 0)) }) := by
  have md := (h.gang.rep i c q hc hk).md
  rw [hmd] at md
  obtain ⟨y', e, hr⟩ := md
  rw [e] at hp
  obtain rfl : y' = y := by simpa using hp
  obtain ⟨x, M⟩ := h.mem
  have hll := L.len
  refine (lkStep_c (nx := none) hr h.hR M (hroot_at n1 n4 h0 h1) (by omega) L.words (by omega) (by omega) (by omega)).mono ?_
  rintro ee w' ⟨rfl, hu, hr', hM⟩
  refine ⟨rfl, [], h.stepP hc hk hu (fun z hz => ?_) hM ⟨y', rfl, hr'⟩ (fun z hz => ?_)⟩
  · rw [e]
    simp only [List.mem_cons, List.not_mem_nil, or_false] at hz ⊢
    rcases hz with hz | hz | hz <;> simp [hz]
  · rw [e]; exact .inl hz
theorem HA.lkR (h : HA w wr m b R S W g gb Sp hb n l l2 cc c2 H cs ks) (hc : cs[i]? = some c) (hk : ks[i]? = some q) (hmd : q.r = .lk slot gen) (hp : c.x.head? = some y) (n1 : 1 ≤ n) (n4 : n ≤ 4) (L : StOk 1 (4 + n) n (13 + 2 * n) l2) (h0 : 0 ≤ slot) (h1 : slot < n) (hcc : c2 ≤ 1000000) :
    Calls Tryz.prog 63 #[.pointer (some ⟨y, 0, none⟩)] wr fun e w' => e = .returned (.bool true) ∧ ∃ f, HA w w' m b R S W g gb Sp hb n l l2 cc (c2 + 1) H (cs.set i { c with x := y :: f }) (ks.set i { q with r := .ld slot gen (lkCd gen (l2.getD (4 + slot.toNat) 0)) (lkOf gen (l2.getD (4 + slot.toNat) 0)) }) := by
  have md := (h.gang.rep i c q hc hk).rmd
  rw [hmd] at md
  obtain ⟨y', e, hr⟩ := md
  rw [e] at hp
  obtain rfl : y' = y := by simpa using hp
  obtain ⟨Pl, E, hW⟩ := h.hW
  have hll := L.len
  have ho : l2[4 + slot.toNat]? = some (l2.getD (4 + slot.toNat) 0) := getD_some (by omega)
  have hwd := L.words _ (List.mem_of_getElem? ho)
  have fin : ∀ {w' : World} {of cd : Int}, Upd [y', g, gb] wr w' → Has w' y' (rlookOf W slot gen of cd true) 131 → RMem w' g gb (13 + 2 * n) l2 (c2 + 1) → HA w w' m b R S W g gb Sp hb n l l2 cc (c2 + 1) H (cs.set i { c with x := [y'] }) (ks.set i { q with r := .ld slot gen cd of }) := fun hu hr' hM => by
    refine h.stepR hc hk hu (fun z hz => ?_) hM ⟨y', rfl, hr'⟩ (fun z hz => ?_)
    · rw [e]
      simp only [List.mem_cons, List.not_mem_nil, or_false] at hz ⊢
      rcases hz with hz | hz | hz <;> simp [hz]
    · rw [e]; exact .inl hz
  unfold lkCd lkOf
  cases hv : liveW (l2.getD (4 + slot.toNat) 0) gen with
  | true =>
    refine (rlook_live hv hr hW h.rmem (hroot_at n1 n4 h0 h1) ho hwd.1 hwd.2 (by omega)).mono ?_
    rintro ee w' ⟨rfl, hu, hr', hM⟩
    exact ⟨rfl, [], fin hu hr' hM⟩
  | false =>
    refine (rlook_dead hv hr hW h.rmem (hroot_at n1 n4 h0 h1) ho hwd.1 hwd.2 (by omega)).mono ?_
    rintro ee w' ⟨rfl, hu, hr', hM⟩
    exact ⟨rfl, [], fin hu hr' hM⟩
/-- His Push. -/
theorem HA.puP {s : Pu} (h : HA w wr m b R S W g gb Sp hb n l l2 cc c2 H cs ks) (hc : cs[i]? = some c) (hk : ks[i]? = some q) (hmd : q.md = .pu s) (hp : c.p.head? = some y) (L : StOk 1 (4 + n) n (13 + 2 * n) l) (I : PuInv n C s) (hC : C ≤ 80000) (h3 : s.ph < 4) (hcc : cc ≤ 1000000) :
    Calls Tryz.prog 55 #[.pointer (some ⟨y, 0, none⟩)] wr fun e w' => e = .returned (.bool true) ∧ ∃ f, HA w w' m b R S W g gb Sp hb n (puMem 1 (4 + n) n l s) l2 (cc + 1) c2 H (cs.set i { c with p := y :: f }) (ks.set i { q with md := .pu (puStep 1 l s) }) := by
  have md := (h.gang.rep i c q hc hk).md
  rw [hmd] at md
  obtain ⟨y', v, e, hr⟩ := md
  rw [e] at hp
  obtain rfl : y' = y := by simpa using hp
  obtain ⟨x, M⟩ := h.mem
  refine (puStep_c hr h.hS M L (I.ok (by omega)) (by omega)).mono ?_
  rintro ee w' ⟨rfl, hu, hr', hM⟩
  have ec : puCount s = 1 := if_pos h3
  rw [ec] at hM
  refine ⟨by rw [decide_eq_true h3], ownB v, h.stepP hc hk hu (fun z hz => ?_) hM ⟨y', v, rfl, hr'⟩ (fun z hz => ?_)⟩
  · rw [e]
    simp only [List.mem_cons, List.not_mem_nil, or_false] at hz ⊢
    rcases hz with hz | hz | hz <;> simp [hz]
  · rw [e]; exact .inl hz
theorem HA.puR {s : Pu} (h : HA w wr m b R S W g gb Sp hb n l l2 cc c2 H cs ks) (hc : cs[i]? = some c) (hk : ks[i]? = some q) (hmd : q.r = .pu s) (hp : c.x.head? = some y) (L : StOk 1 (4 + n) n (13 + 2 * n) l2) (I : PuInv n C s) (hC : C ≤ 80000) (h3 : s.ph < 4) (hcc : c2 ≤ 1000000) :
    Calls Tryz.prog 65 #[.pointer (some ⟨y, 0, none⟩)] wr fun e w' => e = .returned (.bool true) ∧ ∃ f, HA w w' m b R S W g gb Sp hb n l (puMem 1 (4 + n) n l2 s) cc (c2 + 1) H (cs.set i { c with x := y :: f }) (ks.set i { q with r := .pu (puStep 1 l2 s) }) := by
  have md := (h.gang.rep i c q hc hk).rmd
  rw [hmd] at md
  obtain ⟨y', v, e, hr⟩ := md
  rw [e] at hp
  obtain rfl : y' = y := by simpa using hp
  refine (rpuStep_c hr h.hSp h.rmem L (I.ok (by omega)) (by omega)).mono ?_
  rintro ee w' ⟨rfl, hu, hr', hM⟩
  have ec : puCount s = 1 := if_pos h3
  rw [ec] at hM
  refine ⟨by rw [decide_eq_true h3], ownB v, h.stepR hc hk hu (fun z hz => ?_) hM ⟨y', v, rfl, hr'⟩ (fun z hz => ?_)⟩
  · rw [e]
    simp only [List.mem_cons, List.not_mem_nil, or_false] at hz ⊢
    rcases hz with hz | hz | hz <;> simp [hz]
  · rw [e]; exact .inl hz
/-- No machine any more. -/
theorem HA.noP (h : HA w wr m b R S W g gb Sp hb n l l2 cc c2 H cs ks) (hc : cs[i]? = some c) (hk : ks[i]? = some q) : HA w wr m b R S W g gb Sp hb n l l2 cc c2 H (cs.set i { c with p := [] }) (ks.set i { q with md := .no }) :=
  h.stepP hc hk (Upd.refl [] wr) (by simp) h.mem (f := []) (md := .no) rfl (by simp)
theorem HA.noR (h : HA w wr m b R S W g gb Sp hb n l l2 cc c2 H cs ks) (hc : cs[i]? = some c) (hk : ks[i]? = some q) : HA w wr m b R S W g gb Sp hb n l l2 cc c2 H (cs.set i { c with x := [] }) (ks.set i { q with r := .no }) :=
  h.stepR hc hk (Upd.refl [] wr) (by simp) h.rmem (f := []) (md := .no) rfl (by simp)
/-- A machine begins. -/
theorem HA.newP {f : List Nat} {md : HMd} (h : HA w wr m b R S W g gb Sp hb n l l2 cc c2 H cs ks) (hc : cs[i]? = some c) (hk : ks[i]? = some q) (hkp : Keeps wr w') (hr : HPRep w.heap.size R S w' f md) (hs : ∀ y ∈ f, wr.heap.size ≤ y) : HA w w' m b R S W g gb Sp hb n l l2 cc c2 H (cs.set i { c with p := f }) (ks.set i { q with md := md }) := by
  obtain ⟨x, M⟩ := h.mem
  exact h.stepP hc hk (Upd.of_keeps (S := []) hkp) (by simp) ⟨x, M.keeps hkp⟩ hr (fun y hy => .inr (hs y hy))
theorem HA.newR {f : List Nat} {md : HMd} (h : HA w wr m b R S W g gb Sp hb n l l2 cc c2 H cs ks) (hc : cs[i]? = some c) (hk : ks[i]? = some q) (hkp : Keeps wr w') (hr : HRRep w.heap.size W Sp w' f md) (hs : ∀ y ∈ f, wr.heap.size ≤ y) : HA w w' m b R S W g gb Sp hb n l l2 cc c2 H (cs.set i { c with x := f }) (ks.set i { q with r := md }) :=
  h.stepR hc hk (Upd.of_keeps (S := []) hkp) (by simp) (h.rmem.keeps hkp) hr (fun y hy => .inr (hs y hy))
end
end Go.Proofs.YtaecapjicphdkaaGreat

/- RootsPlay: how a round ends. -/
namespace Go.Proofs.YtaecapjicphdkaaGreat
set_option linter.unusedVariables false
set_option linter.unusedSimpArgs false
open Go Go.RowKit
set_option maxRecDepth 100000
set_option maxHeartbeats 1000000

theorem hAnyH_mono {P : Program} {md : Region.Mode} {ops : Array Oper} {Q : Exit → Act → World → Prop} {S S' : World → Prop} (hs : ∀ w, S' w → S w) :
    ∀ (fuel : Nat) (listed : Array Bool) (a : Act) (w : World), wpAnyH P md ops Q S' fuel listed a w → wpAnyH P md ops Q S fuel listed a w
  | 0, _, _, _, h => h
  | fuel + 1, _, _, _, h => ⟨h.1, fun i hi => wpOp_mono (fun a' w' h' => ⟨hs _ h'.1, hAnyH_mono hs fuel _ a' w' h'.2⟩) (h.2 i hi)⟩
theorem set_off {H : List Value} {j k : Nat} (v : Value) (h : j ≠ k) : (H.set j v)[k]? = H[k]? := List.getElem?_set_ne h
theorem set_on {H : List Value} {j : Nat} (v : Value) (h : j < H.length) : (H.set j v)[j]? = some v := List.getElem?_set_self h
section
variable {H : List Value} {i a : Nat} {c c' : HLoc} {md md' : HMd}
theorem HTie.same (t : HTie H i c md) (hk : hkind md' = hkind md) (h1 : c'.p.head? = c.p.head?) (h2 : c'.x.head? = c.x.head?) (h3 : c'.h = c.h) : HTie H i c' md' :=
  ⟨fun j hj => by rw [hk, h1]; exact t.p j hj, fun j hj e => by rw [h2]; exact t.x j hj (hk ▸ e), by rw [h3]; exact t.h⟩
theorem HTie.stop (t : HTie H i c md) (hl : H.length = 36) (hi : i < 4) (ha : a < 4) (hk : hkind md = a) (h3 : c'.h = c.h) : HTie (H.set (4 * a + i) (.pointer none)) i c' .no := by
  refine ⟨fun j hj => ?_, fun j hj e => absurd e (by show ¬ 4 = j; omega), ?_⟩
  · rw [if_neg (show ¬ hkind .no = j by show ¬ 4 = j; omega)]
    by_cases e : j = a
    · subst e; exact set_on _ (by omega)
    · rw [set_off _ (by omega)]
      have := t.p j hj
      rwa [if_neg (by omega)] at this
  · rw [set_off _ (by omega), h3]; exact t.h
theorem HTie.seth {v : Value} (t : HTie H i c md) (hl : H.length = 36) (hi : i < 4) (h1 : c'.p.head? = c.p.head?) (h2 : c'.x.head? = c.x.head?) (h3 : c'.h = v) : HTie (H.set (32 + i) v) i c' md :=
  ⟨fun j hj => by rw [set_off _ (by omega), h1]; exact t.p j hj, fun j hj e => by rw [set_off _ (by omega), h2]; exact t.x j hj e, by rw [h3]; exact set_on _ (by omega)⟩
theorem HTie.begin_ {v1 v2 : Value} (t : HTie H i c .no) (hl : H.length = 36) (hi : i < 4) (ha : a < 4) (hk : hkind md' = a) (h1 : v1 = optr c'.p.head?) (h2 : v2 = optr c'.x.head?) (h3 : c'.h = c.h) : HTie ((H.set (4 * a + i) v1).set (16 + 4 * a + i) v2) i c' md' := by
  refine ⟨fun j hj => ?_, fun j hj e => ?_, ?_⟩
  · rw [set_off _ (by omega)]
    by_cases e : j = a
    · subst e
      rw [if_pos hk, ← h1]
      exact set_on _ (by omega)
    · rw [set_off _ (by omega), if_neg (by omega)]
      have := t.p j hj
      rwa [if_neg (show ¬ hkind .no = j by show ¬ 4 = j; omega)] at this
  · obtain rfl : j = a := by omega
    rw [← h2]
    exact set_on _ (by rw [List.length_set]; omega)
  · rw [set_off _ (by omega), set_off _ (by omega), h3]; exact t.h
end
section
variable {w wr w' : World} {m b R S W g gb Sp hb n : Nat} {l l' : List Int} {cc cc' C : Int} {H : List Value} {cs : List HLoc} {ws : List HWs} {i a : Nat} {c : HLoc} {k : HWs} {p' x' : List Nat} {md' : HMd}
theorem HInv.later (h : HInv w wr m b R S W g gb Sp hb n C) (hk : Keeps wr w') : HInv w w' m b R S W g gb Sp hb n C := by
  obtain ⟨l, cc, H, cs, ws, h1, h2, h3, h4⟩ := h
  exact ⟨l, cc, H, cs, ws, h1.later hk, h2, h3, h4⟩
theorem HInv.kp (h : HInv w wr m b R S W g gb Sp hb n C) : Keeps w wr := by
  obtain ⟨l, cc, H, cs, ws, h1, h2, h3, h4⟩ := h
  exact h1.keeps
/-- His machine goes on. -/
theorem HInv.go (h : HA w wr m b R S W g gb Sp hb n l' l' cc' cc' H (cs.set i ⟨p', x', c.h⟩) ((hks ws).set i ⟨md', md', k.has⟩)) (ti : HTies H cs ws) (A : HAll n C l ws) (hc : cs[i]? = some c) (hk : ws[i]? = some k) (hi : i < 4)
    (h1 : p'.head? = c.p.head?) (h2 : x'.head? = c.x.head?) (hkd : hkind md' = hkind k.md) (ok : StOk 1 (4 + n) n (13 + 2 * n) l') (hm : MdOk n (C + 1) md') (hcc : cc' ≤ C + 1) : HInv w wr m b R S W g gb Sp hb n (C + 1) := by
  have hcl := (List.getElem?_eq_some_iff.1 hc).1
  have hwl := (List.getElem?_eq_some_iff.1 hk).1
  obtain ⟨-, a2, a3⟩ := A.md i k hk
  refine ⟨l', cc', H, _, ws.set i ⟨md', k.has⟩, by rw [← hks_set]; exact h, ti.turn hi hcl hwl (fun _ _ => rfl) ((ti i c k hi hc hk).same (c' := ⟨p', x', c.h⟩) hkd h1 h2 rfl), A.turn ok hm a2 (by show (k.has.length : Int) ≤ C + 1; omega), hcc⟩
/-- It comes to its end. -/
theorem HInv.stop {mp mr : HMd} (h : HA w wr m b R S W g gb Sp hb n l' l' cc' cc' H (cs.set i ⟨p', x', c.h⟩) ((hks ws).set i ⟨mp, mr, k.has⟩)) (ti : HTies H cs ws) (A : HAll n C l ws) (hc : cs[i]? = some c) (hk : ws[i]? = some k) (hi : i < 4)
    (ha : a < 4) (hkd : hkind k.md = a) (ok : StOk 1 (4 + n) n (13 + 2 * n) l') (hcc : cc' ≤ C + 1) : HInv w (wr.setCell ⟨hb, 4 * a + i, none⟩ (.pointer none)) m b R S W g gb Sp hb n (C + 1) := by
  have hcl := (List.getElem?_eq_some_iff.1 hc).1
  have hwl := (List.getElem?_eq_some_iff.1 hk).1
  have hkl : i < (hks ws).length := by simp [hks]; exact hwl
  obtain ⟨-, a2, a3⟩ := A.md i k hk
  have h2 := ((h.noP (List.getElem?_set_self hcl) (List.getElem?_set_self hkl)).noR (by rw [List.set_set]; exact List.getElem?_set_self hcl) (by rw [List.set_set]; exact List.getElem?_set_self hkl)).cell (4 * a + i) (.pointer none)
  simp only [List.set_set] at h2
  refine ⟨l', cc', _, cs.set i ⟨[], [], c.h⟩, ws.set i ⟨.no, k.has⟩, by rw [← hks_set]; exact h2, ti.turn hi hcl hwl (fun j hj => set_off _ (by omega)) ((ti i c k hi hc hk).stop h.hlen hi ha hkd rfl), A.turn ok trivial a2 (by show (k.has.length : Int) ≤ C + 1; omega), hcc⟩
/-- An End comes to its end, and a slot is his. -/
theorem HInv.stopH {mp mr : HMd} {v : Value} {zs : List Int} (h : HA w wr m b R S W g gb Sp hb n l' l' cc' cc' H (cs.set i ⟨p', x', v⟩) ((hks ws).set i ⟨mp, mr, zs⟩)) (ti : HTies H cs ws) (A : HAll n C l ws) (hc : cs[i]? = some c) (hk : ws[i]? = some k) (hi : i < 4)
    (ha : a < 4) (hkd : hkind k.md = a) (ok : StOk 1 (4 + n) n (13 + 2 * n) l') (hz : ∀ z ∈ zs, 0 ≤ z ∧ z < n) (hzl : (zs.length : Int) ≤ C + 1) (hcc : cc' ≤ C + 1) : HInv w ((wr.setCell ⟨hb, 32 + i, none⟩ v).setCell ⟨hb, 4 * a + i, none⟩ (.pointer none)) m b R S W g gb Sp hb n (C + 1) := by
  have hcl := (List.getElem?_eq_some_iff.1 hc).1
  have hwl := (List.getElem?_eq_some_iff.1 hk).1
  have hkl : i < (hks ws).length := by simp [hks]; exact hwl
  have h2 := (((h.noP (List.getElem?_set_self hcl) (List.getElem?_set_self hkl)).noR (by rw [List.set_set]; exact List.getElem?_set_self hcl) (by rw [List.set_set]; exact List.getElem?_set_self hkl)).cell (32 + i) v).cell (4 * a + i) (.pointer none)
  simp only [List.set_set] at h2
  have t := ((ti i c k hi hc hk).seth (c' := ⟨c.p, c.x, v⟩) (v := v) h.hlen hi rfl rfl rfl).stop (c' := ⟨[], [], v⟩) (by rw [List.length_set]; exact h.hlen) hi ha hkd rfl
  exact ⟨l', cc', _, cs.set i ⟨[], [], v⟩, ws.set i ⟨.no, zs⟩, by rw [← hks_set]; exact h2, ti.turn hi hcl hwl (fun j hj => by rw [set_off _ (by omega), set_off _ (by omega)]) t, A.turn ok trivial hz hzl, hcc⟩
/-- A machine begins. -/
theorem HInv.begin_ {v1 v2 : Value} (h : HA w wr m b R S W g gb Sp hb n l l cc cc H (cs.set i ⟨p', x', c.h⟩) ((hks ws).set i ⟨md', md', k.has⟩)) (ti : HTies H cs ws) (A : HAll n C l ws) (hc : cs[i]? = some c) (hk : ws[i]? = some k) (hno : k.md = .no) (hi : i < 4)
    (ha : a < 4) (hkd : hkind md' = a) (e1 : v1 = optr p'.head?) (e2 : v2 = optr x'.head?) (hm : MdOk n (C + 1) md') (hcc : cc ≤ C) : HInv w ((wr.setCell ⟨hb, 4 * a + i, none⟩ v1).setCell ⟨hb, 16 + 4 * a + i, none⟩ v2) m b R S W g gb Sp hb n (C + 1) := by
  have hcl := (List.getElem?_eq_some_iff.1 hc).1
  have hwl := (List.getElem?_eq_some_iff.1 hk).1
  obtain ⟨-, a2, a3⟩ := A.md i k hk
  have t := ti i c k hi hc hk
  rw [hno] at t
  exact ⟨l, cc, _, _, ws.set i ⟨md', k.has⟩, by rw [← hks_set]; exact (h.cell _ v1).cell _ v2, ti.turn hi hcl hwl (fun j hj => by rw [set_off _ (by omega), set_off _ (by omega)]) (t.begin_ (c' := ⟨p', x', c.h⟩) (md' := md') (v1 := v1) (v2 := v2) h.hlen hi ha hkd e1 e2 rfl), A.turn A.ok hm a2 (by show (k.has.length : Int) ≤ C + 1; omega), by omega⟩
/-- A Push begins with a slot of his. -/
theorem HInv.beginH {v v1 v2 : Value} {zs : List Int} (h : HA w wr m b R S W g gb Sp hb n l l cc cc ((H.set (32 + i) v)) (cs.set i ⟨p', x', v⟩) ((hks ws).set i ⟨md', md', zs⟩)) (hHl : H.length = 36) (ti : HTies H cs ws) (A : HAll n C l ws) (hc : cs[i]? = some c) (hk : ws[i]? = some k) (hno : k.md = .no) (hi : i < 4)
    (ha : a < 4) (hkd : hkind md' = a) (e1 : v1 = optr p'.head?) (e2 : v2 = optr x'.head?) (hm : MdOk n (C + 1) md') (hz : ∀ z ∈ zs, 0 ≤ z ∧ z < n) (hzl : (zs.length : Int) ≤ C + 1) (hcc : cc ≤ C) : HInv w ((wr.setCell ⟨hb, 4 * a + i, none⟩ v1).setCell ⟨hb, 16 + 4 * a + i, none⟩ v2) m b R S W g gb Sp hb n (C + 1) := by
  have hcl := (List.getElem?_eq_some_iff.1 hc).1
  have hwl := (List.getElem?_eq_some_iff.1 hk).1
  have t := ti i c k hi hc hk
  rw [hno] at t
  have t2 := (t.seth (c' := ⟨c.p, c.x, v⟩) (v := v) hHl hi rfl rfl rfl).begin_ (c' := ⟨p', x', v⟩) (md' := md') (v1 := v1) (v2 := v2) (by rw [List.length_set]; exact hHl) hi ha hkd e1 e2 rfl
  exact ⟨l, cc, _, _, ws.set i ⟨md', zs⟩, by rw [← hks_set]; exact (h.cell _ v1).cell _ v2, ti.turn hi hcl hwl (fun j hj => by rw [set_off _ (by omega), set_off _ (by omega), set_off _ (by omega)]) t2, A.turn A.ok hm hz hzl, by omega⟩
/-- Nothing begins. -/
theorem HInv.rest (h : HA w wr m b R S W g gb Sp hb n l l cc cc H cs (hks ws)) (ti : HTies H cs ws) (A : HAll n C l ws) (hcc : cc ≤ C) : HInv w wr m b R S W g gb Sp hb n (C + 1) :=
  ⟨l, cc, H, cs, ws, h, ti, ⟨A.ok, fun i k hk => by obtain ⟨x, y, z⟩ := A.md i k hk; exact ⟨x.mono (by omega), y, by omega⟩⟩, by omega⟩
end
end Go.Proofs.YtaecapjicphdkaaGreat
