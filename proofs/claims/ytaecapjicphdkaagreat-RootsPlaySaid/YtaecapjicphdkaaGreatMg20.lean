/- The document's Push and Pop as plain machines: makers, Got, one contract for the Step of each. -/
import Derived.Test.YtaecapjicphdkaaGreatMg19
import Derived.Test.YtaecapjicphdkaaGreatMg16
import Derived.Test.YtaecapjicphdkaaGreatMg04
namespace Go.Proofs.YtaecapjicphdkaaGreat
set_option linter.unusedVariables false
set_option linter.unusedSimpArgs false
open Go Go.RowKit
set_option maxRecDepth 100000
attribute [local go_sem ↓] Go.wp_at_zero Go.wp_at_succ
set_option maxHeartbeats 1000000

section
variable {w : World} {S g b N hd lk n T B : Nat} {l : List Int} {cc : Int} {v : Value}
theorem rmkPop_c (most q : Int) (hq : (8 < most ∧ q = 8) ∨ (1 ≤ most ∧ most ≤ 8 ∧ q = most) ∨ (most < 1 ∧ q = 1)) :
    Calls Tryz.prog 133 #[.pointer (some ⟨S, 0, none⟩), .int .i64 most] w fun e w' => ∃ T, e = .returned (.pointer (some ⟨T, 0, none⟩)) ∧ Keeps w w' ∧ w.heap.size ≤ T ∧ Has w' T (rpopOf S q 0 0 0 (.slice none 0 0) false) 160 := by
  rcases hq with ⟨h1, rfl⟩ | ⟨h1, h2, rfl⟩ | ⟨h1, rfl⟩
  · have h3 : 1 ≤ most := by omega
    go_enter Tryz.func133, Tryz.ntmps133
    go_wp2
    go_ret
    exact ⟨w.heap.size, rfl, by ((repeat' (first | (with_reducible exact Keeps.refl _) | (with_reducible assumption) | (with_reducible refine Keeps.drewN ?_ _) | (with_reducible refine Keeps.drew ?_) | (with_reducible refine Keeps.alloc ?_ _) | (with_reducible refine Keeps.setCell ?_ ?_ _) | (with_reducible refine Keeps.trans ?_ (After.keeps _)) | (with_reducible refine Keeps.trans ?_ (by with_reducible assumption)) | go_size)); (first | done | fail)), Nat.le_refl _, by (apply Has.congr; (focus ((repeat (first | (with_reducible assumption) | (with_reducible exact Has.new _ _ _) | (with_reducible exact Has.new1 _ _ _ _) | (with_reducible exact Has.new2 _ _ _ _ _) | (with_reducible refine Has.newAt ?_; (simp; done)) | (with_reducible apply Has.set) | (with_reducible apply Has.far; (case hn => first | assumption | (simp; done) | (intro e_; simp at e_; omega))) | (with_reducible apply Has.alloc) | (with_reducible apply Has.drewN) | (with_reducible apply Has.drew) | (with_reducible refine Has.keeps ?_ (by with_reducible assumption)))))); (first | rfl | (simp; done)))⟩
  · go_enter Tryz.func133, Tryz.ntmps133
    go_wp2
    all_goals go_ret
    all_goals exact ⟨w.heap.size, rfl, by ((repeat' (first | (with_reducible exact Keeps.refl _) | (with_reducible assumption) | (with_reducible refine Keeps.drewN ?_ _) | (with_reducible refine Keeps.drew ?_) | (with_reducible refine Keeps.alloc ?_ _) | (with_reducible refine Keeps.setCell ?_ ?_ _) | (with_reducible refine Keeps.trans ?_ (After.keeps _)) | (with_reducible refine Keeps.trans ?_ (by with_reducible assumption)) | go_size)); (first | done | fail)), Nat.le_refl _, by (apply Has.congr; (focus ((repeat (first | (with_reducible assumption) | (with_reducible exact Has.new _ _ _) | (with_reducible exact Has.new1 _ _ _ _) | (with_reducible exact Has.new2 _ _ _ _ _) | (with_reducible refine Has.newAt ?_; (simp; done)) | (with_reducible apply Has.set) | (with_reducible apply Has.far; (case hn => first | assumption | (simp; done) | (intro e_; simp at e_; omega))) | (with_reducible apply Has.alloc) | (with_reducible apply Has.drewN) | (with_reducible apply Has.drew) | (with_reducible refine Has.keeps ?_ (by with_reducible assumption)))))); (first | rfl | (simp; done)))⟩
  · go_enter Tryz.func133, Tryz.ntmps133
    go_wp2
    go_ret
    exact ⟨w.heap.size, rfl, by ((repeat' (first | (with_reducible exact Keeps.refl _) | (with_reducible assumption) | (with_reducible refine Keeps.drewN ?_ _) | (with_reducible refine Keeps.drew ?_) | (with_reducible refine Keeps.alloc ?_ _) | (with_reducible refine Keeps.setCell ?_ ?_ _) | (with_reducible refine Keeps.trans ?_ (After.keeps _)) | (with_reducible refine Keeps.trans ?_ (by with_reducible assumption)) | go_size)); (first | done | fail)), Nat.le_refl _, by (apply Has.congr; (focus ((repeat (first | (with_reducible assumption) | (with_reducible exact Has.new _ _ _) | (with_reducible exact Has.new1 _ _ _ _) | (with_reducible exact Has.new2 _ _ _ _ _) | (with_reducible refine Has.newAt ?_; (simp; done)) | (with_reducible apply Has.set) | (with_reducible apply Has.far; (case hn => first | assumption | (simp; done) | (intro e_; simp at e_; omega))) | (with_reducible apply Has.alloc) | (with_reducible apply Has.drewN) | (with_reducible apply Has.drew) | (with_reducible refine Has.keeps ?_ (by with_reducible assumption)))))); (first | rfl | (simp; done)))⟩
theorem rmkPush_c (zs : List Int) (a : Option Addr) (cap : Nat) (hs : Src w (.slice a zs.length cap) zs) (hne : zs ≠ []) (hl : zs.length ≤ 1000000) :
    Calls Tryz.prog 111 #[.pointer (some ⟨S, 0, none⟩), .slice a zs.length cap] w fun e w' => ∃ T v', e = .returned (.pointer (some ⟨T, 0, none⟩)) ∧ Keeps w w' ∧ w.heap.size ≤ T ∧ Has w' T (rpushOf S v' 0 0 false) 133 ∧ Row w.heap.size 3 w' v' (ivals zs) := by
  have hp := List.length_pos_iff.2 hne
  have q0 : ((zs.length : Int) == 0) = false := by rw [beq_eq_false_iff_ne]; omega
  have HS := Lib.hid hs
  have q1 : ¬ zs = [] := hne
  clear hs hp hne
  go_enter Tryz.func111, Tryz.ntmps111
  go_wp2_with (at_builtin; refine wpList_append_ints (B := w.heap.size) (v := .slice none 0 0) (xs := []) (ys := zs) (by rfl) _ _ (by rfl) _ (by rfl) (by rfl) (Row.nil _ _ _) HS.out (by simp; omega) (Nat.le_refl _) ?_; intro v1 w1 R1 U1 O1; rw [List.nil_append] at R1; obtain ⟨a1, c1, hv1, -⟩ := R1.reads; subst hv1; have K1 := U1.keeps)
  go_ret
  exact ⟨w1.heap.size, .slice a1 zs.length c1, rfl, by ((repeat' (first | (with_reducible exact Keeps.refl _) | (with_reducible assumption) | (with_reducible refine Keeps.drewN ?_ _) | (with_reducible refine Keeps.drew ?_) | (with_reducible refine Keeps.alloc ?_ _) | (with_reducible refine Keeps.setCell ?_ ?_ _) | (with_reducible refine Keeps.trans ?_ (After.keeps _)) | (with_reducible refine Keeps.trans ?_ (by with_reducible assumption)) | go_size)); (first | done | fail)), K1.size, by (apply Has.congr; (focus ((repeat (first | (with_reducible assumption) | (with_reducible exact Has.new _ _ _) | (with_reducible exact Has.new1 _ _ _ _) | (with_reducible exact Has.new2 _ _ _ _ _) | (with_reducible refine Has.newAt ?_; (simp; done)) | (with_reducible apply Has.set) | (with_reducible apply Has.far; (case hn => first | assumption | (simp; done) | (intro e_; simp at e_; omega))) | (with_reducible apply Has.alloc) | (with_reducible apply Has.drewN) | (with_reducible apply Has.drew) | (with_reducible refine Has.keeps ?_ (by with_reducible assumption)))))); (first | rfl | (simp; done))), R1.alloc _⟩
/-- It lies in block T, its items in v. -/
def rpuAt (s : Pu) : Int := if s.ph = 0 then s.i else if s.ph = 2 then s.zs.length else if s.ph = 3 then (s.zs.length : Int) + 1 else (s.zs.length : Int) - 1
structure RPuRep (w : World) (B T S : Nat) (v : Value) (s : Pu) : Prop where
  has : Has w T (rpushOf S v (rpuAt s) s.was (decide (4 ≤ s.ph))) 133
  row : Row B 3 w v (ivals s.zs)
def rpoAt (s : Po) : Int := if s.ph = 1 then 1 else if s.ph = 2 then 2 else 0
structure RPoRep (w : World) (B T S : Nat) (v : Value) (s : Po) : Prop where
  has : Has w T (rpopOf S s.most (rpoAt s) s.under s.was v (decide (3 ≤ s.ph))) 160
  row : Row B 3 w v (ivals s.got)
theorem rgot_c {s : Po} (hg : RPoRep w B T S v s) (h3 : 3 ≤ s.ph) (hl : s.got.length ≤ 1000000) :
    Calls Tryz.prog 98 #[.pointer (some ⟨T, 0, none⟩)] w fun e w' => ∃ v', e = .returned v' ∧ Keeps w w' ∧ Row w.heap.size 3 w' v' (ivals s.got) := by
  obtain ⟨has, row⟩ := hg
  rw [decide_eq_true h3] at has
  have HR := Lib.hid row.src
  clear row
  have FX_ := (has).facts; simp only [blockFacts, listFacts, cellsAt, Nat.reduceAdd, and_true, true_and, and_assoc] at FX_
  go_enter Tryz.func98, Tryz.ntmps98
  go_wp2_with (at_builtin; refine wpList_append_ints (B := w.heap.size) (v := .slice none 0 0) (xs := []) (ys := s.got) (by rfl) _ _ (by rfl) _ (by rfl) (by rfl) (Row.nil _ _ _) HR.out (by simp; omega) (Nat.le_refl _) ?_; intro v1 w1 R1 U1 O1; rw [List.nil_append] at R1; have K1 := U1.keeps)
  go_ret
  exact ⟨_, rfl, K1, R1⟩
theorem rgot_no {s : Po} (hg : RPoRep w B T S v s) (h3 : s.ph < 3) :
    Calls Tryz.prog 98 #[.pointer (some ⟨T, 0, none⟩)] w fun e w' => e = .returned (.slice none 0 0) ∧ w = w' := by
  obtain ⟨has, row⟩ := hg
  rw [decide_eq_false (show ¬ 3 ≤ s.ph by omega)] at has
  have FX_ := (has).facts; simp only [blockFacts, listFacts, cellsAt, Nat.reduceAdd, and_true, true_and, and_assoc] at FX_
  go_enter Tryz.func98, Tryz.ntmps98
  go_wp2
  go_ret
  exact ⟨rfl, rfl⟩
theorem rpuStep_c {s : Pu} (hg : RPuRep w B T S v s) (hS : Has w S (rstackOf g hd lk n) 136) (M : RMem w g b N l cc) (L : StOk hd lk n N l) (H : PuOk n s) (hcc : cc < 4611686018427387903) :
    Calls Tryz.prog 65 #[.pointer (some ⟨T, 0, none⟩)] w fun e w' => e = .returned (.bool (decide (s.ph < 4))) ∧ Upd [T, g, b] w w' ∧
      RPuRep w' B T S v (puStep hd l s) ∧ RMem w' g b N (puMem hd lk n l s) (cc + puCount s) := by
  obtain ⟨ph, c, zs, i, was⟩ := s
  obtain ⟨hz, items, zlen, i1, w0, u1, c0, c1⟩ := H
  obtain ⟨has, row⟩ := hg
  dsimp only at *
  have hl1 := L.lk1
  have hl2 := L.len
  have hl5 := L.hd1
  have zpos : 0 < zs.length := List.length_pos_iff.2 hz
  obtain ⟨lb, cap, cur, rfl, hL, hcur⟩ := row.formI hz
  have ngl : lb ≠ T := (Has.ne has hL (by decide)).symm
  have nlm : lb ≠ g := Has.ne hL M.hg (by decide)
  have nlb : lb ≠ b := Has.ne hL M.hb (by decide)
  have rowU : ∀ w2, Upd [T, g, b] w w2 → Row B 3 w2 (.slice (some ⟨lb, 0, none⟩) zs.length cap) (ivals zs) := fun w2 hu => row.upd hu (by simp; exact ⟨ngl, nlm, nlb⟩)
  match ph, has, i1 with
  | 0, has, i1 =>
    have hi : i + 2 ≤ zs.length := i1 rfl
    have b1 := items_at (s := ⟨0, c, zs, i, was⟩) items (i := i) (show i < zs.length by omega)
    have b2 := items_at (s := ⟨0, c, zs, i, was⟩) items (i := i + 1) (show i + 1 < zs.length by omega)
    dsimp only at b1 b2
    have hq : (lk : Int) + zs.getD i 0 = (((lk : Int) + zs.getD i 0).toNat : Nat) := by omega
    have em : puMem hd lk n l ⟨0, c, zs, i, was⟩ = l.set ((lk : Int) + zs.getD i 0).toNat (zs.getD (i + 1) 0 + 1) := rfl
    have ec : puCount ⟨0, c, zs, i, was⟩ = 1 := rfl
    have es : puStep hd l ⟨0, c, zs, i, was⟩ = ⟨if i + 2 < zs.length then 0 else 1, c + 1, zs, i + 1, was⟩ := rfl
    have ea : rpuAt ⟨if i + 2 < zs.length then 0 else 1, c + 1, zs, i + 1, was⟩ = (i : Int) + 1 := by
      by_cases h : i + 2 < zs.length
      · rw [if_pos h]; rfl
      · rw [if_neg h]
        have : rpuAt ⟨1, c + 1, zs, i + 1, was⟩ = (zs.length : Int) - 1 := rfl
        rw [this]
        omega
    have ed : decide (4 ≤ (if i + 2 < zs.length then 0 else 1)) = false := by split <;> rfl
    rw [em, ec, es]
    refine (rpush_link (i := i) has hS M L (by omega) zlen hcc hL (hcur i (by omega)) (hcur (i + 1) (by omega)) b1.1 b1.2 b2.1 b2.2 hq).mono ?_
    rintro e w' ⟨rfl, hu2, h2, M2⟩
    exact ⟨rfl, hu2, ⟨by dsimp only; rw [ea, ed]; exact h2, rowU _ hu2⟩, M2⟩
  | 1, has, i1 =>
    refine (rpush_load has hS M L (by omega) zlen hcc).mono ?_
    rintro e w' ⟨rfl, hu2, h2, M2⟩
    exact ⟨rfl, hu2, ⟨h2, rowU _ hu2⟩, M2⟩
  | 2, has, i1 =>
    have b1 := items_at (s := ⟨2, c, zs, i, was⟩) items (i := zs.length - 1) (show zs.length - 1 < zs.length by omega)
    dsimp only at b1
    have hq : (lk : Int) + zs.getD (zs.length - 1) 0 = (((lk : Int) + zs.getD (zs.length - 1) 0).toNat : Nat) := by omega
    refine (rpush_last (i := zs.length - 1) has hS M L (by omega) w0 u1 zlen hcc hL (hcur (zs.length - 1) (by omega)) b1.1 b1.2 hq).mono ?_
    rintro e w' ⟨rfl, hu2, h2, M2⟩
    exact ⟨rfl, hu2, ⟨h2, rowU _ hu2⟩, M2⟩
  | 3, has, i1 =>
    have em : puMem hd lk n l ⟨3, c, zs, i, was⟩ = if l.getD hd 0 = was then l.set hd (nextI was (zs.getD 0 0)) else l := rfl
    have ec : puCount ⟨3, c, zs, i, was⟩ = 1 := rfl
    have es : puStep hd l ⟨3, c, zs, i, was⟩ = ⟨if l.getD hd 0 = was then 4 else 1, c + 1, zs, i, was⟩ := rfl
    have ea : rpuAt ⟨if l.getD hd 0 = was then 4 else 1, c + 1, zs, i, was⟩ = (zs.length : Int) - 1 := by
      unfold rpuAt; dsimp only; split <;> simp
    have ed : decide (4 ≤ (if l.getD hd 0 = was then 4 else 1)) = decide (l.getD hd 0 = was) := by split <;> simp_all
    rw [em, ec, es]
    refine (rpush_cas has hS M L (by omega) zlen hcc w0 u1 hL (hcur 0 (by omega))).mono ?_
    rintro e w' ⟨rfl, hu2, h2, M2⟩
    exact ⟨rfl, hu2, ⟨by dsimp only; rw [ea, ed]; exact h2, rowU _ hu2⟩, M2⟩
  | k + 4, has, i1 =>
    have hd4 : decide (4 ≤ k + 4) = true := decide_eq_true (by omega)
    rw [hd4] at has
    refine (rpush_done has).mono ?_
    rintro e w' ⟨rfl, rfl⟩
    have e1 : puCount ⟨k + 4, c, zs, i, was⟩ = 0 := by unfold puCount; rw [if_neg (show ¬ k + 4 < 4 by omega)]
    refine ⟨by simp, Upd.refl _ _, ⟨by rw [← hd4] at has; exact has, row⟩, ?_⟩
    rw [e1, Int.add_zero]
    exact M
theorem rpoStep_c {s : Po} (hg : RPoRep w B T S v s) (hS : Has w S (rstackOf g hd lk n) 136) (M : RMem w g b N l cc) (L : StOk hd lk n N l) (H : PoOk n s) (hgl : s.got.length ≤ 100000) (hB : B ≤ w.heap.size) (hcc : cc < 4611686018427387903) :
    Calls Tryz.prog 97 #[.pointer (some ⟨T, 0, none⟩)] w fun e w' => ∃ v', e = .returned (.bool (decide (s.ph < 3))) ∧ Upd (T :: g :: b :: ownB v) w w' ∧
      RPoRep w' B T S v' (poStep hd lk n l s) ∧ RMem w' g b N (poMem hd l s) (cc + poCount s) ∧ (∀ y ∈ ownB v', y ∈ ownB v ∨ w.heap.size ≤ y) := by
  obtain ⟨ph, c, most, under, was, got⟩ := s
  obtain ⟨hz, items, zlen, w0, u1, c0, c1⟩ := H
  obtain ⟨has, row⟩ := hg
  dsimp only at *
  have hl1 := L.lk1
  have hl2 := L.len
  have hl5 := L.hd1
  have rn1 := row.ne has (by decide)
  have rn2 := row.ne M.hg (by decide)
  have rn3 := row.ne M.hb (by decide)
  have rowU : ∀ w2, Upd [T, g, b] w w2 → Row B 3 w2 v (ivals got) := fun w2 hu => row.upd hu (fun y hy => by simp; exact ⟨rn1 y hy, rn2 y hy, rn3 y hy⟩)
  have up3 : ∀ {a b2 : World}, Upd [T, g, b] a b2 → Upd (T :: g :: b :: ownB v) a b2 := fun h => h.mono (fun y hy => by simp at hy ⊢; rcases hy with h | h | h <;> simp [h])
  match ph, has, hz with
  | 0, has, hz =>
    have em : poMem hd l ⟨0, c, most, under, was, got⟩ = l := rfl
    have ec : poCount ⟨0, c, most, under, was, got⟩ = 1 := rfl
    have es : poStep hd lk n l ⟨0, c, most, under, was, got⟩ = if topI n (l.getD hd 0) < 0 then ⟨3, c + 1, most, under, l.getD hd 0, []⟩ else ⟨1, c + 1, most, under, l.getD hd 0, [topI n (l.getD hd 0)]⟩ := rfl
    rw [em, ec, es]
    by_cases ht : topI n (l.getD hd 0) < 0
    · rw [if_pos ht]
      refine (rpop_none has hS M L hcc ht).mono ?_
      rintro e w' ⟨rfl, hu2, h2, M2⟩
      exact ⟨_, rfl, up3 hu2, ⟨h2, Row.nil _ _ _⟩, M2, by simp⟩
    · rw [if_neg ht]
      refine (rpop_some has hS M L hcc (by omega)).mono ?_
      rintro e w' ⟨v', rfl, hu2, h2, M2, R2⟩
      exact ⟨v', rfl, up3 hu2, ⟨h2, R2.mono hB⟩, M2, fun y hy => .inr (R2.own y hy).1⟩
  | 1, has, hz =>
    have hne := hz rfl
    obtain ⟨k, hk⟩ : ∃ k, got.length = k + 1 := ⟨got.length - 1, by have := List.length_pos_iff.2 hne; omega⟩
    obtain ⟨lb, cap, cur, hv', hL, hcur⟩ := row.formI hne
    rw [hk] at hv'
    subst hv'
    have b1 : 0 ≤ got.getD k 0 ∧ got.getD k 0 < n := by
      rw [List.getD_eq_getElem?_getD, List.getElem?_eq_getElem (by omega)]
      exact items _ (List.getElem_mem _)
    have hq : (lk : Int) + got.getD k 0 = (((lk : Int) + got.getD k 0).toNat : Nat) := by omega
    have em : poMem hd l ⟨1, c, most, under, was, got⟩ = l := rfl
    have ec : poCount ⟨1, c, most, under, was, got⟩ = 1 := rfl
    have eb : poBelow lk n l ⟨1, c, most, under, was, got⟩ = belowI n (l.getD ((lk : Int) + got.getD k 0).toNat 0) := by unfold poBelow; dsimp only; rw [hk]; rfl
    have es : poStep hd lk n l ⟨1, c, most, under, was, got⟩ = poLink lk n l ⟨1, c, most, under, was, got⟩ := rfl
    rw [em, ec, es]
    unfold poLink
    rw [eb]
    dsimp only
    refine (rpop_link has hS M L (by omega) hcc hL (hcur k (by omega)) b1.1 b1.2 hq row hk hB).mono ?_
    rintro e w' ⟨rfl, hp⟩
    unfold rlinkPost at hp
    obtain ⟨v', hu2, h2, M2, hO⟩ := hp
    have ek : ((got.length : Nat) : Int) = (k : Int) + 1 := by omega
    rw [ek]
    refine ⟨v', rfl, hu2.mono (by simp), ?_, M2, fun y hy => by rcases hO y hy with h | h; exact .inl (by simp [h]); exact .inr h⟩
    by_cases hb : 0 ≤ belowI n (l.getD ((lk : Int) + got.getD k 0).toNat 0) ∧ (k : Int) + 1 < most
    · rw [if_pos hb] at h2 ⊢
      exact ⟨h2.1, h2.2⟩
    · rw [if_neg hb] at h2 ⊢
      exact ⟨h2.1, h2.2⟩
  | 2, has, hz =>
    have em : poMem hd l ⟨2, c, most, under, was, got⟩ = if l.getD hd 0 = was then l.set hd (nextI was under) else l := rfl
    have ec : poCount ⟨2, c, most, under, was, got⟩ = 1 := rfl
    have es : poStep hd lk n l ⟨2, c, most, under, was, got⟩ = ⟨if l.getD hd 0 = was then 3 else 0, c + 1, most, under, was, got⟩ := rfl
    have ea : rpoAt ⟨if l.getD hd 0 = was then 3 else 0, c + 1, most, under, was, got⟩ = 0 := by unfold rpoAt; dsimp only; split <;> simp
    have ed : decide (3 ≤ (if l.getD hd 0 = was then 3 else 0)) = decide (l.getD hd 0 = was) := by split <;> simp_all
    rw [em, ec, es]
    refine (rpop_cas has hS M L hcc w0 u1).mono ?_
    rintro e w' ⟨rfl, hu2, h2, M2⟩
    exact ⟨_, rfl, up3 hu2, ⟨by dsimp only; rw [ea, ed]; exact h2, rowU _ hu2⟩, M2, fun y hy => .inl hy⟩
  | k + 3, has, hz =>
    have hd4 : decide (3 ≤ k + 3) = true := decide_eq_true (by omega)
    rw [hd4] at has
    refine (rpop_done has).mono ?_
    rintro e w' ⟨rfl, rfl⟩
    have e1 : poCount ⟨k + 3, c, most, under, was, got⟩ = 0 := by unfold poCount; rw [if_neg (show ¬ k + 3 < 3 by omega)]
    refine ⟨v, by simp, Upd.refl _ _, ⟨by rw [← hd4] at has; exact has, row⟩, ?_, fun y hy => .inl hy⟩
    rw [e1, Int.add_zero]
    exact M
end
end Go.Proofs.YtaecapjicphdkaaGreat

/- The document's stack: List, walked. -/
namespace Go.Proofs.YtaecapjicphdkaaGreat
set_option linter.unusedVariables false
set_option linter.unusedSimpArgs false
open Go Go.RowKit
set_option maxRecDepth 100000
attribute [local go_sem ↓] Go.wp_at_zero Go.wp_at_succ
set_option maxHeartbeats 1000000

section
variable {w : World} {S g b N hd lk n : Nat} {l : List Int} {cc : Int}
theorem rlist_c (hS : Has w S (rstackOf g hd lk n) 136) (M : RMem w g b N l cc) (L : StOk hd lk n N l) :
    Calls Tryz.prog 27 #[.pointer (some ⟨S, 0, none⟩)] w fun e w' => ∃ v', e = .returned v' ∧ Keeps w w' ∧ Row w.heap.size 3 w' v' (ivals (stList hd lk n l)) := by
  have hl1 := L.lk1
  have hl2 := L.len
  have hl3 := L.small
  have hl4 := L.n1
  have hl5 := L.hd1
  have bt := topI_bd n (l.getD hd 0)
  have hob := L.words _ (List.mem_of_getElem? (getD_some (l := l) (i := hd) (by omega)))
  have e0 : (u64s l)[hd]? = some (.int .u64 (l.getD hd 0)) := u64s_at (getD_some (by omega))
  obtain ⟨r, hr⟩ : ∃ r, stList hd lk n l = r := ⟨_, rfl⟩
  have HRes : Hid (listFrom lk n l n (topI n (l.getD hd 0)) = r) := Lib.hid hr
  rw [hr]
  clear hr
  generalize l.getD hd 0 = hw at *
  obtain ⟨o0, o1⟩ := hob
  obtain ⟨t, ht⟩ : ∃ t, topI n hw = t := ⟨_, rfl⟩
  rw [ht] at bt HRes
  obtain ⟨bt0, bt1⟩ := bt
  have HT := Lib.hid ht
  have lb0 : (hd : Int) < N := by omega
  have h00 : (0 : Int) ≤ (hd : Int) := by omega
  clear ht
  have HS := hS
  have MW := M
  have HMg := MW.hg
  have HMb := MW.hb
  have KA := Keeps.refl w
  go_enter Tryz.func27, Tryz.ntmps27
  go_wp2
  go_region_held3 (fun y => ((y.cell? ⟨S, 0, none⟩ = some (.pointer (some ⟨g, 0, none⟩)) ∧ y.cell? ⟨g, 0, none⟩ = some (.slice (some ⟨b, 0, none⟩) N N)) ∧ y.cell? ⟨S, 1, none⟩ = some (.int .i64 hd)) ∧ y.cell? ⟨b, hd, none⟩ = some (.int .u64 hw)) (((repeat' (with_reducible apply And.intro)) <;> (apply Has.cellv; (focus ((repeat (first | (with_reducible assumption) | (with_reducible exact Has.new _ _ _) | (with_reducible exact Has.new1 _ _ _ _) | (with_reducible exact Has.new2 _ _ _ _ _) | (with_reducible refine Has.newAt ?_; (simp; done)) | (with_reducible apply Has.set) | (with_reducible apply Has.far; (case hn => first | assumption | (simp; done) | (intro e_; simp at e_; omega))) | (with_reducible apply Has.alloc) | (with_reducible apply Has.drewN) | (with_reducible apply Has.drew) | (with_reducible refine Has.keeps ?_ (by with_reducible assumption)))))); (first | (with_reducible assumption) | rfl | (simp; done) | fail))))
    ((go_at_call 67; refine (rtop_c _ (HS.keeps (by ((repeat' (first | (with_reducible exact Keeps.refl _) | (with_reducible assumption) | (with_reducible refine Keeps.drewN ?_ _) | (with_reducible refine Keeps.drew ?_) | (with_reducible refine Keeps.alloc ?_ _) | (with_reducible refine Keeps.setCell ?_ ?_ _) | (with_reducible refine Keeps.trans ?_ (After.keeps _)) | (with_reducible refine Keeps.trans ?_ (by with_reducible assumption)) | go_size)); (first | done | fail)))) o0 o1).mono ?_; rintro e w' ⟨rfl, hk5⟩; rw [HT.out]; have KA := (Keeps.drew (Keeps.refl _)).trans hk5; have HS := HS.keeps KA; have HMg := HMg.keeps KA; have HMb := HMb.keeps KA))
  have MW := M.keeps KA
  clear HMg HMb e0
  go_wp2
  go_loopw [3, 4] (fun out i wr => ∃ (k : Nat) (ys : List Int) (cur : Int), k ≤ n ∧ ys.length = k ∧ i = .int .i64 cur ∧ -1 ≤ cur ∧ cur < n ∧ Hid (ys ++ listFrom lk n l (n - k) cur = r) ∧ Row w.heap.size 3 wr out (ivals ys) ∧ Has wr S (rstackOf g hd lk n) 136 ∧ RMem wr g b N l cc ∧ Keeps w wr) (fun out _ _ => n - lenOf out)
  case atStart => exact ⟨0, [], t, by omega, rfl, rfl, bt0, bt1, Lib.hid (by simpa using HRes.out), Row.nil _ _ _, HS, MW, KA⟩
  case round =>
    clear HS MW KA hS M
    obtain ⟨k, ys, cur, hk, hky, rfl, c0, c1, hrel, R, HS, MW, K0⟩ := hrel
    obtain ⟨ad, cap, hv, _⟩ := R.reads
    rw [hky] at hv
    subst hv
    have FX_ := (HS).facts; simp only [blockFacts, listFacts, cellsAt, Nat.reduceAdd, and_true, true_and, and_assoc, rstackOf] at FX_
    by_cases hc : 0 ≤ cur
    · by_cases hlt : k < n
      · obtain ⟨q, hqn⟩ : ∃ q : Nat, ((lk : Int) + cur).toNat = q := ⟨_, rfl⟩
        have hlb := L.words _ (List.mem_of_getElem? (getD_some (l := l) (i := q) (by omega)))
        have e1 : (u64s l)[q]? = some (.int .u64 (l.getD q 0)) := u64s_at (getD_some (by omega))
        have bb := belowI_bd n _ hlb.1
        have hstep : listFrom lk n l (n - k) cur = cur :: listFrom lk n l (n - (k + 1)) (belowI n (l.getD q 0)) := by
          rw [show n - k = (n - (k + 1)) + 1 by omega, ← hqn]
          show (if cur < 0 then [] else _) = _
          rw [if_neg (by omega)]
        have HST := Lib.hid hstep
        have qq : (lk : Int) + cur = (q : Int) := by omega
        have pw := wrapI_ok ((lk : Int) + cur) (by omega) (by omega)
        have HQ := Lib.hid qq
        have hqN : (q : Int) < N := by omega
        have hq0 : (0 : Int) ≤ (q : Int) := by omega
        have hb0 : 0 ≤ (lk : Int) + cur := by omega
        have hb1 : (lk : Int) + cur < N := by omega
        clear hstep qq
        generalize l.getD q 0 = lw at *
        obtain ⟨r0, r1⟩ := hlb
        obtain ⟨u, hu⟩ : ∃ u, belowI n lw = u := ⟨_, rfl⟩
        rw [hu] at bb HST
        obtain ⟨bb0, bb1⟩ := bb
        have HU := Lib.hid hu
        clear hu
        have szr := K0.size
        go_wp2_with (at_builtin; refine wpList_append_ints (B := w.heap.size) (xs := ys) (ys := [cur]) rfl _ _ rfl _ rfl rfl (R.alloc _) (Has.src (Has.newAt (by simp)) _) (by simp; omega) (by simp; omega) ?_; intro v1 w1 R1 U1 O1)
        have HS := (HS.alloc (.cells #[.int .i64 cur] 3)).upd U1 (fun hx => R.ne HS (by decide) _ hx rfl)
        have MW := (MW.alloc (.cells #[.int .i64 cur] 3)).upd U1 (fun hx => R.ne MW.hg (by decide) _ hx rfl) (fun hx => R.ne MW.hb (by decide) _ hx rfl)
        have K1 := (K0.alloc (.cells #[.int .i64 cur] 3)).upd U1 (fun y hy => (R.own y hy).1)
        have RR := Lib.hid R1
        have KA := Keeps.refl w1
        have HMg := MW.hg
        have HMb := MW.hb
        go_region_held3 (fun y => ((y.cell? ⟨S, 0, none⟩ = some (.pointer (some ⟨g, 0, none⟩)) ∧ y.cell? ⟨g, 0, none⟩ = some (.slice (some ⟨b, 0, none⟩) N N)) ∧ y.cell? ⟨S, 2, none⟩ = some (.int .i64 lk)) ∧ y.cell? ⟨b, q, none⟩ = some (.int .u64 lw)) (((repeat' (with_reducible apply And.intro)) <;> (apply Has.cellv; (focus ((repeat (first | (with_reducible assumption) | (with_reducible exact Has.new _ _ _) | (with_reducible exact Has.new1 _ _ _ _) | (with_reducible exact Has.new2 _ _ _ _ _) | (with_reducible refine Has.newAt ?_; (simp; done)) | (with_reducible apply Has.set) | (with_reducible apply Has.far; (case hn => first | assumption | (simp; done) | (intro e_; simp at e_; omega))) | (with_reducible apply Has.alloc) | (with_reducible apply Has.drewN) | (with_reducible apply Has.drew) | (with_reducible refine Has.keeps ?_ (by with_reducible assumption)))))); (first | (with_reducible assumption) | rfl | (simp; done) | fail))))
          ((go_at_call 68; refine (rbelow_c _ (HS.keeps (by ((repeat' (first | (with_reducible exact Keeps.refl _) | (with_reducible assumption) | (with_reducible refine Keeps.drewN ?_ _) | (with_reducible refine Keeps.drew ?_) | (with_reducible refine Keeps.alloc ?_ _) | (with_reducible refine Keeps.setCell ?_ ?_ _) | (with_reducible refine Keeps.trans ?_ (After.keeps _)) | (with_reducible refine Keeps.trans ?_ (by with_reducible assumption)) | go_size)); (first | done | fail)))) r0 r1 (by omega)).mono ?_; rintro e w' ⟨rfl, rfl⟩; rw [HU.out]))
        go_wp2
        go_roundw
        case rel =>
          refine ⟨k + 1, ys ++ [cur], u, by omega, by simp [hky], rfl, bb0, bb1, Lib.hid ?_, RR.out.drew, HS.drew, MW.keeps (Keeps.refl _).drew, K1.drew⟩
          rw [List.append_assoc]; rw [← hrel.out, HST.out]; rfl
        case measure =>
          have hlv : lenOf v1 = k + 1 := by
            obtain ⟨a9, c9, hv9, _⟩ := RR.out.reads
            rw [hv9]; simp [lenOf, hky]
          rw [hlv]; simp [lenOf]; omega
      · obtain rfl : k = n := by omega
        have hres : ys = r := by have h := hrel.out; rw [Nat.sub_self] at h; simpa [listFrom] using h
        go_wp2
        go_ret
        exact ⟨_, rfl, K0, by rw [← hres]; exact R⟩
    · have hres : ys = r := by
        have h := hrel.out
        rw [show listFrom lk n l (n - k) cur = [] by cases (n - k) with | zero => rfl | succ f => show (if cur < 0 then [] else _) = _; rw [if_pos (by omega)]] at h
        simpa using h
      go_wp2
      go_ret
      exact ⟨_, rfl, K0, by rw [← hres]; exact R⟩
end
end Go.Proofs.YtaecapjicphdkaaGreat

/- What package lay computes: each function walked once. -/
namespace Go.Proofs.YtaecapjicphdkaaGreat
set_option linter.unusedVariables false
set_option linter.unusedSimpArgs false
open Go Go.RowKit
set_option maxRecDepth 100000

theorem lwithin_c (n a b : Int) (w : World) : Calls Tryz.prog 74 #[.int .i64 n, .int .i64 a, .int .i64 b] w fun e w' => e = .returned (.bool (withinB n a b)) ∧ w = w' := by
  go_enter Tryz.func74, Tryz.ntmps74
  go_wp2
  all_goals go_ret
  · have h : decide (a ≤ n) = true := decide_eq_true (by assumption)
    exact ⟨by unfold withinB; rw [h]; rfl, rfl⟩
  · have h : decide (a ≤ n) = false := decide_eq_false (by omega)
    exact ⟨by unfold withinB; rw [h]; rfl, rfl⟩

/-- May a configuration be? -/
def mayB (p k d s c b : Int) : Bool := withinB p 1 64 && (withinB k 1 4096 && (withinB d 8 1024 && ((d % 8 == 0) && (withinB s 1 4096 && (withinB c 0 64 && withinB b 1 8)))))
theorem mayB_true {p k d s c b : Int} : mayB p k d s c b = true ↔ (1 ≤ p ∧ p ≤ 64) ∧ (1 ≤ k ∧ k ≤ 4096) ∧ (8 ≤ d ∧ d ≤ 1024) ∧ d % 8 = 0 ∧ (1 ≤ s ∧ s ≤ 4096) ∧ (0 ≤ c ∧ c ≤ 64) ∧ 1 ≤ b ∧ b ≤ 8 := by
  unfold mayB; simp only [Bool.and_eq_true, withinB_true, beq_iff_eq]

theorem may_c (p k d s c b : Int) (w : World) : Calls Tryz.prog 35 #[.agg #[.int .i64 p, .int .i64 k, .int .i64 d, .int .i64 s, .int .i64 c, .int .i64 b]] w fun e w' => e = .returned (.bool (mayB p k d s c b)) ∧ Keeps w w' := by
  cases h1 : withinB p 1 64 with
  | false =>
    have e : mayB p k d s c b = false := by unfold mayB; rw [h1]; rfl
    rw [e]
    have H1 := Lib.hid h1
    clear h1 e
    go_enter Tryz.func35, Tryz.ntmps35
    go_wp2_with (go_at_call 74; refine (lwithin_c _ _ _ _).mono ?_; rintro e w' ⟨rfl, rfl⟩; rw [H1.out])
    go_ret
    exact ⟨rfl, by ((repeat' (first | (with_reducible exact Keeps.refl _) | (with_reducible assumption) | (with_reducible refine Keeps.drewN ?_ _) | (with_reducible refine Keeps.drew ?_) | (with_reducible refine Keeps.alloc ?_ _) | (with_reducible refine Keeps.setCell ?_ ?_ _) | (with_reducible refine Keeps.trans ?_ (After.keeps _)) | (with_reducible refine Keeps.trans ?_ (by with_reducible assumption)) | go_size)); (first | done | fail))⟩
  | true =>
  have H1 := Lib.hid h1
  cases h2 : withinB k 1 4096 with
  | false =>
    have e : mayB p k d s c b = false := by unfold mayB; rw [h1, h2]; rfl
    rw [e]
    have H2 := Lib.hid h2
    clear h1 h2 e
    go_enter Tryz.func35, Tryz.ntmps35
    go_wp2_with (go_at_call 74; refine (lwithin_c _ _ _ _).mono ?_; rintro e w' ⟨rfl, rfl⟩; first | rw [H1.out] | rw [H2.out])
    go_ret
    exact ⟨rfl, by ((repeat' (first | (with_reducible exact Keeps.refl _) | (with_reducible assumption) | (with_reducible refine Keeps.drewN ?_ _) | (with_reducible refine Keeps.drew ?_) | (with_reducible refine Keeps.alloc ?_ _) | (with_reducible refine Keeps.setCell ?_ ?_ _) | (with_reducible refine Keeps.trans ?_ (After.keeps _)) | (with_reducible refine Keeps.trans ?_ (by with_reducible assumption)) | go_size)); (first | done | fail))⟩
  | true =>
  have H2 := Lib.hid h2
  cases h3 : withinB d 8 1024 with
  | false =>
    have e : mayB p k d s c b = false := by unfold mayB; rw [h1, h2, h3]; rfl
    rw [e]
    have H3 := Lib.hid h3
    clear h1 h2 h3 e
    go_enter Tryz.func35, Tryz.ntmps35
    go_wp2_with (go_at_call 74; refine (lwithin_c _ _ _ _).mono ?_; rintro e w' ⟨rfl, rfl⟩; first | rw [H1.out] | rw [H2.out] | rw [H3.out])
    go_ret
    exact ⟨rfl, by ((repeat' (first | (with_reducible exact Keeps.refl _) | (with_reducible assumption) | (with_reducible refine Keeps.drewN ?_ _) | (with_reducible refine Keeps.drew ?_) | (with_reducible refine Keeps.alloc ?_ _) | (with_reducible refine Keeps.setCell ?_ ?_ _) | (with_reducible refine Keeps.trans ?_ (After.keeps _)) | (with_reducible refine Keeps.trans ?_ (by with_reducible assumption)) | go_size)); (first | done | fail))⟩
  | true =>
  have H3 := Lib.hid h3
  obtain ⟨d1, d2⟩ := withinB_true.1 h3
  cases hm : (d % 8 == 0) with
  | false =>
    have e : mayB p k d s c b = false := by unfold mayB; rw [h1, h2, h3, hm]; rfl
    rw [e]
    clear h1 h2 h3 e
    go_enter Tryz.func35, Tryz.ntmps35
    go_wp2_with (go_at_call 74; refine (lwithin_c _ _ _ _).mono ?_; rintro e w' ⟨rfl, rfl⟩; first | rw [H1.out] | rw [H2.out] | rw [H3.out])
    go_ret
    exact ⟨rfl, by ((repeat' (first | (with_reducible exact Keeps.refl _) | (with_reducible assumption) | (with_reducible refine Keeps.drewN ?_ _) | (with_reducible refine Keeps.drew ?_) | (with_reducible refine Keeps.alloc ?_ _) | (with_reducible refine Keeps.setCell ?_ ?_ _) | (with_reducible refine Keeps.trans ?_ (After.keeps _)) | (with_reducible refine Keeps.trans ?_ (by with_reducible assumption)) | go_size)); (first | done | fail))⟩
  | true =>
  cases h4 : withinB s 1 4096 with
  | false =>
    have e : mayB p k d s c b = false := by unfold mayB; rw [h1, h2, h3, hm, h4]; rfl
    rw [e]
    have H4 := Lib.hid h4
    clear h1 h2 h3 h4 e
    go_enter Tryz.func35, Tryz.ntmps35
    go_wp2_with (go_at_call 74; refine (lwithin_c _ _ _ _).mono ?_; rintro e w' ⟨rfl, rfl⟩; first | rw [H1.out] | rw [H2.out] | rw [H3.out] | rw [H4.out])
    go_ret
    exact ⟨rfl, by ((repeat' (first | (with_reducible exact Keeps.refl _) | (with_reducible assumption) | (with_reducible refine Keeps.drewN ?_ _) | (with_reducible refine Keeps.drew ?_) | (with_reducible refine Keeps.alloc ?_ _) | (with_reducible refine Keeps.setCell ?_ ?_ _) | (with_reducible refine Keeps.trans ?_ (After.keeps _)) | (with_reducible refine Keeps.trans ?_ (by with_reducible assumption)) | go_size)); (first | done | fail))⟩
  | true =>
  have H4 := Lib.hid h4
  cases h5 : withinB c 0 64 with
  | false =>
    have e : mayB p k d s c b = false := by unfold mayB; rw [h1, h2, h3, hm, h4, h5]; rfl
    rw [e]
    have H5 := Lib.hid h5
    clear h1 h2 h3 h4 h5 e
    go_enter Tryz.func35, Tryz.ntmps35
    go_wp2_with (go_at_call 74; refine (lwithin_c _ _ _ _).mono ?_; rintro e w' ⟨rfl, rfl⟩; first | rw [H1.out] | rw [H2.out] | rw [H3.out] | rw [H4.out] | rw [H5.out])
    go_ret
    exact ⟨rfl, by ((repeat' (first | (with_reducible exact Keeps.refl _) | (with_reducible assumption) | (with_reducible refine Keeps.drewN ?_ _) | (with_reducible refine Keeps.drew ?_) | (with_reducible refine Keeps.alloc ?_ _) | (with_reducible refine Keeps.setCell ?_ ?_ _) | (with_reducible refine Keeps.trans ?_ (After.keeps _)) | (with_reducible refine Keeps.trans ?_ (by with_reducible assumption)) | go_size)); (first | done | fail))⟩
  | true =>
  have H5 := Lib.hid h5
  have e : mayB p k d s c b = withinB b 1 8 := by unfold mayB; rw [h1, h2, h3, hm, h4, h5]; rfl
  rw [e]
  clear h1 h2 h3 h4 h5 e
  go_enter Tryz.func35, Tryz.ntmps35
  go_wp2_with (go_at_call 74; refine (lwithin_c _ _ _ _).mono ?_; rintro e w' ⟨rfl, rfl⟩; first | rw [H1.out] | rw [H2.out] | rw [H3.out] | rw [H4.out] | rw [H5.out] | skip)
  go_ret
  exact ⟨rfl, by ((repeat' (first | (with_reducible exact Keeps.refl _) | (with_reducible assumption) | (with_reducible refine Keeps.drewN ?_ _) | (with_reducible refine Keeps.drew ?_) | (with_reducible refine Keeps.alloc ?_ _) | (with_reducible refine Keeps.setCell ?_ ?_ _) | (with_reducible refine Keeps.trans ?_ (After.keeps _)) | (with_reducible refine Keeps.trans ?_ (by with_reducible assumption)) | go_size)); (first | done | fail))⟩

theorem prod_bd {k d : Int} (h1 : 1 ≤ k) (h2 : k ≤ 4096) (h3 : 8 ≤ d) (h4 : d ≤ 1024) : 8 ≤ k * d ∧ k * d ≤ 4194304 := by
  have a := Int.mul_le_mul h1 h3 (by omega) (by omega)
  have b := Int.mul_le_mul h2 h4 (by omega) (by omega)
  omega

set_option maxHeartbeats 1000000 in
theorem parts_c (p k d s c b : Int) (w : World) (h : mayB p k d s c b = true) : Calls Tryz.prog 36 #[.agg #[.int .i64 p, .int .i64 k, .int .i64 d, .int .i64 s, .int .i64 c, .int .i64 b]] w fun e w' =>
    e = .returned (.agg #[.int .i64 3, .int .i64 3, .int .i64 p, .int .i64 4, .int .i64 (3 + p), .int .i64 s, .int .i64 5, .int .i64 (3 + p + s), .int .i64 s, .int .i64 6, .int .i64 (3 + p + s + s), .int .i64 k, .int .i64 7, .int .i64 (3 + p + s + s + k), .int .i64 (k * d)]) ∧ Keeps w w' := by
  obtain ⟨⟨p0, p1⟩, ⟨k0, k1⟩, ⟨d0, d1⟩, -, ⟨s0, s1⟩, ⟨c0, c1⟩, b0, b1⟩ := mayB_true.1 h
  obtain ⟨q0, q1⟩ := prod_bd k0 k1 d0 d1
  clear h
  go_enter Tryz.func36, Tryz.ntmps36
  go_wp2
  go_rounds 6
  go_returns
  exact ⟨rfl, by ((repeat' (first | (with_reducible exact Keeps.refl _) | (with_reducible assumption) | (with_reducible refine Keeps.drewN ?_ _) | (with_reducible refine Keeps.drew ?_) | (with_reducible refine Keeps.alloc ?_ _) | (with_reducible refine Keeps.setCell ?_ ?_ _) | (with_reducible refine Keeps.trans ?_ (After.keeps _)) | (with_reducible refine Keeps.trans ?_ (by with_reducible assumption)) | go_size)); (first | done | fail))⟩
end Go.Proofs.YtaecapjicphdkaaGreat
