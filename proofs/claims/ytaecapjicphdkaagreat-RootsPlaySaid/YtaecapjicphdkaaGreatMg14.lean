/- A stack's List, walked. -/
import Derived.Test.YtaecapjicphdkaaGreatMg13
namespace Go.Proofs.YtaecapjicphdkaaGreat
set_option linter.unusedVariables false
set_option linter.unusedSimpArgs false
open Go Go.RowKit
set_option maxRecDepth 100000
attribute [local go_sem ↓] Go.wp_at_zero Go.wp_at_succ
set_option maxHeartbeats 1000000

def lenOf : Value → Nat
  | .slice _ n _ => n
  | _ => 0
/-- The items from one on, at most so many. -/
def listFrom (lk n : Nat) (l : List Int) : Nat → Int → List Int
  | 0, _ => []
  | f + 1, i => if i < 0 then [] else i :: listFrom lk n l f (belowI n (l.getD ((lk : Int) + i).toNat 0))
def stList (hd lk n : Nat) (l : List Int) : List Int := listFrom lk n l n (topI n (l.getD hd 0))
section
variable {w : World} {S m b N hd lk n B : Nat} {l : List Int} {cc : Int} {x : Acc} {g : Nat} {v : Value} {H K : Int}
theorem list_c (hS : Has w S (stackOf m hd lk n) 143) (M : Mem w m b N l cc x) (L : StOk hd lk n N l) :
    Calls Tryz.prog 51 #[.pointer (some ⟨S, 0, none⟩)] w fun e w' => ∃ v', e = .returned v' ∧ Keeps w w' ∧ Row w.heap.size 3 w' v' (ivals (stList hd lk n l)) := by
  obtain ⟨i0, hi, hz0, hz1, hz2⟩ := info_parts info_int
  have hl1 := L.lk1
  have hl2 := L.len
  have hl3 := L.small
  have hl4 := L.n1
  have hl5 := L.hd1
  have bt := topI_bd n (l.getD hd 0)
  have hob := L.words _ (List.mem_of_getElem? (getD_some (l := l) (i := hd) (by omega)))
  have HO : Hid (l[hd]? = some (l.getD hd 0)) := Lib.hid (getD_some (by omega))
  obtain ⟨r, hr⟩ : ∃ r, stList hd lk n l = r := ⟨_, rfl⟩
  have HRes : Hid (listFrom lk n l n (topI n (l.getD hd 0)) = r) := Lib.hid hr
  rw [hr]
  clear hr
  generalize l.getD hd 0 = hw at *
  obtain ⟨o0, o1⟩ := hob
  obtain ⟨t, ht⟩ : ∃ t, topI n hw = t := ⟨_, rfl⟩
  rw [ht] at bt HRes
  obtain ⟨bt0, bt1⟩ := bt
  have HT := Lib.hid ht
  clear ht
  have FX_ := (hS).facts; simp only [blockFacts, listFacts, cellsAt, Nat.reduceAdd, and_true, true_and, and_assoc, stackOf] at FX_
  have HS := hS
  have MW := M
  go_enter Tryz.func51, Tryz.ntmps51
  go_wp2
  go_region_held3 (fun y => y.cell? ⟨S, 0, none⟩ = some (.pointer (some ⟨m, 0, none⟩)) ∧ y.cell? ⟨S, 1, none⟩ = some (.int .i64 hd)) (((repeat' (with_reducible apply And.intro)) <;> (apply Has.cellv; (focus ((repeat (first | (with_reducible assumption) | (with_reducible exact Has.new _ _ _) | (with_reducible exact Has.new1 _ _ _ _) | (with_reducible exact Has.new2 _ _ _ _ _) | (with_reducible refine Has.newAt ?_; (simp; done)) | (with_reducible apply Has.set) | (with_reducible apply Has.far; (case hn => first | assumption | (simp; done) | (intro e_; simp at e_; omega))) | (with_reducible apply Has.alloc) | (with_reducible apply Has.drewN) | (with_reducible apply Has.drew) | (with_reducible refine Has.keeps ?_ (by with_reducible assumption)))))); (first | (with_reducible assumption) | rfl | (simp; done) | fail))))
    (first
      | (go_at_call 46; refine (mpeek_in (MW.keeps (by ((repeat' (first | (with_reducible exact Keeps.refl _) | (with_reducible assumption) | (with_reducible refine Keeps.drewN ?_ _) | (with_reducible refine Keeps.drew ?_) | (with_reducible refine Keeps.alloc ?_ _) | (with_reducible refine Keeps.setCell ?_ ?_ _) | (with_reducible refine Keeps.trans ?_ (After.keeps _)) | (with_reducible refine Keeps.trans ?_ (by with_reducible assumption)) | go_size)); (first | done | fail)))) hd HO.out).mono ?_; rintro e w' ⟨rfl, rfl⟩)
      | (go_at_call 95; refine (top_c _ (HS.keeps (by ((repeat' (first | (with_reducible exact Keeps.refl _) | (with_reducible assumption) | (with_reducible refine Keeps.drewN ?_ _) | (with_reducible refine Keeps.drew ?_) | (with_reducible refine Keeps.alloc ?_ _) | (with_reducible refine Keeps.setCell ?_ ?_ _) | (with_reducible refine Keeps.trans ?_ (After.keeps _)) | (with_reducible refine Keeps.trans ?_ (by with_reducible assumption)) | go_size)); (first | done | fail)))) o0 o1).mono ?_; rintro e w' ⟨rfl, hk5⟩; rw [HT.out]; have HS := (HS.keeps (by ((repeat' (first | (with_reducible exact Keeps.refl _) | (with_reducible assumption) | (with_reducible refine Keeps.drewN ?_ _) | (with_reducible refine Keeps.drew ?_) | (with_reducible refine Keeps.alloc ?_ _) | (with_reducible refine Keeps.setCell ?_ ?_ _) | (with_reducible refine Keeps.trans ?_ (After.keeps _)) | (with_reducible refine Keeps.trans ?_ (by with_reducible assumption)) | go_size)); (first | done | fail)))).keeps hk5; have K0 := ((Keeps.refl w).drew).trans hk5))
  have MW := M.keeps K0
  go_wp2
  go_loopw [3, 4] (fun out i wr => ∃ (k : Nat) (ys : List Int) (cur : Int), k ≤ n ∧ ys.length = k ∧ i = .int .i64 cur ∧ -1 ≤ cur ∧ cur < n ∧ Hid (ys ++ listFrom lk n l (n - k) cur = r) ∧ Row w.heap.size 3 wr out (ivals ys) ∧ Has wr S (stackOf m hd lk n) 143 ∧ Mem wr m b N l cc x ∧ Keeps w wr) (fun out _ _ => n - lenOf out)
  case atStart => exact ⟨0, [], t, by omega, rfl, rfl, bt0, bt1, Lib.hid (by simpa using HRes.out), Row.nil _ _ _, HS, MW, K0⟩
  case round =>
    obtain ⟨k, ys, cur, hk, hky, rfl, c0, c1, hrel, R, HS, MW, K0⟩ := hrel
    obtain ⟨ad, cap, hv, _⟩ := R.reads
    rw [hky] at hv
    subst hv
    have FX_ := (HS).facts; simp only [blockFacts, listFacts, cellsAt, Nat.reduceAdd, and_true, true_and, and_assoc, stackOf] at FX_
    by_cases hc : 0 ≤ cur
    · by_cases hlt : k < n
      · have hql : (lk : Int) + cur = (((lk : Int) + cur).toNat : Nat) := by omega
        have HQ := Lib.hid hql
        have HOl : Hid (l[((lk : Int) + cur).toNat]? = some (l.getD ((lk : Int) + cur).toNat 0)) := Lib.hid (getD_some (by omega))
        have hlb := L.words _ (List.mem_of_getElem? HOl.out)
        have bb := belowI_bd n _ hlb.1
        have hstep : listFrom lk n l (n - k) cur = cur :: listFrom lk n l (n - (k + 1)) (belowI n (l.getD ((lk : Int) + cur).toNat 0)) := by
          rw [show n - k = (n - (k + 1)) + 1 by omega]
          show (if cur < 0 then [] else _) = _
          rw [if_neg (by omega)]
        have HST := Lib.hid hstep
        clear hstep hql
        generalize l.getD ((lk : Int) + cur).toNat 0 = lw at *
        obtain ⟨q0, q1⟩ := hlb
        obtain ⟨u, hu⟩ : ∃ u, belowI n lw = u := ⟨_, rfl⟩
        rw [hu] at bb HST
        obtain ⟨bb0, bb1⟩ := bb
        have HU := Lib.hid hu
        clear hu
        have pw := wrapI_ok ((lk : Int) + cur) (by omega) (by omega)
        have hown : wr.ownsRow w.heap.size 3 1 (.slice ad k cap) k (ivals ys) := by
          have h := R
          unfold Row at h
          rwa [show (ivals ys).length = k by simp [hky]] at h
        have szr := K0.size
        go_wp2_with (at_builtin; refine wpList_append_own _ rfl _ _ 49 rfl w.heap.size 3 i0 _ 1 8 Tryz.underlying49 hi hz0 hz1 hz2 rfl (by decide) _ _ _ rfl (own_keeps hown ((Keeps.refl wr).alloc _)) ⟨wr.heap.size, 0, none⟩ 1 1 [.int .i64 cur] rfl rfl (news_one (Has.new _ _ _)) (by intro u hu; simp at hu; subst hu; rfl) (by unfold maxLen; omega) (by omega) (by simp; omega) ?_; intro v1 w1 hown1 hgrow1 hnil1; have hU := Upd.grown hgrow1; have nrS := own_ne hown HS (by decide); have nrm := own_ne hown MW.hg (by decide); have nrb := own_ne hown MW.hb (by decide); have HS := (HS.alloc (.cells #[.int .i64 cur] 3)).upd hU (fun hx => nrS _ hx rfl); have MW := (MW.alloc (.cells #[.int .i64 cur] 3)).upd hU (fun hx => nrm _ hx rfl) (fun hx => nrb _ hx rfl); have K1 := (K0.alloc (.cells #[.int .i64 cur] 3)).upd hU (fun y hy => (own_lt hown y hy).1); obtain ⟨a1, cap1, hv1⟩ := own_form hown1; subst hv1)
        go_region_held3 (fun y => y.cell? ⟨S, 0, none⟩ = some (.pointer (some ⟨m, 0, none⟩)) ∧ y.cell? ⟨S, 2, none⟩ = some (.int .i64 lk)) (((repeat' (with_reducible apply And.intro)) <;> (apply Has.cellv; (focus ((repeat (first | (with_reducible assumption) | (with_reducible exact Has.new _ _ _) | (with_reducible exact Has.new1 _ _ _ _) | (with_reducible exact Has.new2 _ _ _ _ _) | (with_reducible refine Has.newAt ?_; (simp; done)) | (with_reducible apply Has.set) | (with_reducible apply Has.far; (case hn => first | assumption | (simp; done) | (intro e_; simp at e_; omega))) | (with_reducible apply Has.alloc) | (with_reducible apply Has.drewN) | (with_reducible apply Has.drew) | (with_reducible refine Has.keeps ?_ (by with_reducible assumption)))))); (first | (with_reducible assumption) | rfl | (simp; done) | fail))))
          (first
            | (go_at_call 46; refine (mpeek_at (MW.keeps (by ((repeat' (first | (with_reducible exact Keeps.refl _) | (with_reducible assumption) | (with_reducible refine Keeps.drewN ?_ _) | (with_reducible refine Keeps.drew ?_) | (with_reducible refine Keeps.alloc ?_ _) | (with_reducible refine Keeps.setCell ?_ ?_ _) | (with_reducible refine Keeps.trans ?_ (After.keeps _)) | (with_reducible refine Keeps.trans ?_ (by with_reducible assumption)) | go_size)); (first | done | fail)))) _ _ HQ.out HOl.out).mono ?_; rintro e w' ⟨rfl, rfl⟩)
            | (go_at_call 96; refine (below_c _ (HS.keeps (by ((repeat' (first | (with_reducible exact Keeps.refl _) | (with_reducible assumption) | (with_reducible refine Keeps.drewN ?_ _) | (with_reducible refine Keeps.drew ?_) | (with_reducible refine Keeps.alloc ?_ _) | (with_reducible refine Keeps.setCell ?_ ?_ _) | (with_reducible refine Keeps.trans ?_ (After.keeps _)) | (with_reducible refine Keeps.trans ?_ (by with_reducible assumption)) | go_size)); (first | done | fail)))) q0 q1 (by omega) (by omega)).mono ?_; rintro e w' ⟨rfl, rfl⟩; rw [HU.out]))
        go_wp2
        go_roundw
        case rel =>
          refine ⟨k + 1, ys ++ [cur], u, by omega, by simp [hky], rfl, bb0, bb1, Lib.hid ?_, ?_, HS.drew, MW.drew, K1.drew⟩
          · rw [List.append_assoc]; rw [← hrel.out, HST.out]; rfl
          · have h : Row w.heap.size 3 w1 (.slice a1 (k + 1) cap1) (ivals ys ++ [.int .i64 cur]) := Row.snoc hown1 (by simp [hky])
            have h2 := h.drew
            simpa [ivals] using h2
        case measure => simp [lenOf]; omega
      · obtain rfl : k = n := by omega
        have hres : ys = r := by have h := hrel.out; rw [Nat.sub_self] at h; simpa [listFrom] using h
        go_wp2
        go_ret
        exact ⟨_, rfl, K0, by rw [← hres]; exact R⟩
    · have hres : ys = r := by
        have h := hrel.out
        rw [show listFrom lk n l (n - k) cur = [] by cases (n - k) with | zero => rfl | succ f => show (if cur < 0 then [] else _) = _; rw [if_pos (by omega)]] at h
        simpa using h
      go_wp2
      go_ret
      exact ⟨_, rfl, K0, by rw [← hres]; exact R⟩
end
end Go.Proofs.YtaecapjicphdkaaGreat

/- Plain laws of Push and Pop as plain machines: what stays. -/
namespace Go.Proofs.YtaecapjicphdkaaGreat
set_option linter.unusedVariables false
set_option linter.unusedSimpArgs false
open Go Go.RowKit
set_option maxRecDepth 100000

theorem headI_bd (i t : Int) : 0 ≤ headI i t ∧ headI i t < 18446744073709551616 := by
  unfold headI
  split
  · rename_i h
    have := headB_true.1 h
    omega
  · omega
theorem StOk.set {hd lk n N : Nat} {l : List Int} (h : StOk hd lk n N l) (i : Nat) (v : Int) (h0 : 0 ≤ v) (h1 : v < 18446744073709551616) : StOk hd lk n N (l.set i v) :=
  ⟨by rw [List.length_set]; exact h.len, h.small, h.hd1, h.lk1, h.n1, fun z hz => by
    rcases List.mem_or_eq_of_mem_set hz with hz | rfl
    · exact h.words z hz
    · exact ⟨h0, h1⟩⟩
theorem StOk.po {hd lk n N : Nat} {l : List Int} (h : StOk hd lk n N l) (s : Po) : StOk hd lk n N (poMem hd l s) := by
  unfold poMem
  split
  · split
    · exact h.set _ _ (headI_bd _ _).1 (headI_bd _ _).2
    · exact h
  · exact h
structure PuInv (n : Nat) (C : Int) (s : Pu) : Prop where
  ne : s.zs ≠ []
  items : ∀ z ∈ s.zs, 0 ≤ z ∧ z < n
  len : s.zs.length ≤ 1000000
  i1 : s.ph = 0 → s.i + 2 ≤ s.zs.length
  w0 : 0 ≤ s.was
  w1 : s.was < 18446744073709551616
  c0 : 0 ≤ s.c
  c1 : s.c ≤ C
theorem PuInv.ok {n : Nat} {C : Int} {s : Pu} (h : PuInv n C s) (hC : C ≤ 900000) : PuOk n s :=
  ⟨h.ne, h.items, h.len, h.i1, h.w0, h.w1, h.c0, by have := h.c1; omega⟩
theorem PuInv.mono {n : Nat} {C D : Int} {s : Pu} (h : PuInv n C s) (hC : C ≤ D) : PuInv n D s := ⟨h.ne, h.items, h.len, h.i1, h.w0, h.w1, h.c0, by have := h.c1; omega⟩
theorem StOk.pu {hd lk n N : Nat} {C : Int} {l : List Int} (h : StOk hd lk n N l) {s : Pu} (H : PuInv n C s) : StOk hd lk n N (puMem hd lk n l s) := by
  have hn := h.n1
  obtain ⟨ph, c, zs, i, was⟩ := s
  have hz := H.ne
  have hlen := List.length_pos_iff.2 hz
  dsimp only at hz hlen
  match ph, H with
  | 0, H =>
    have b := items_at (s := ⟨0, c, zs, i, was⟩) H.items (i := i + 1) (by have := H.i1 rfl; dsimp only at this ⊢; omega)
    dsimp only at b
    exact h.set _ _ (by dsimp only; omega) (by dsimp only; omega)
  | 1, H => exact h
  | 2, H =>
    have b := topI_bd n was
    exact h.set _ _ (by dsimp only; omega) (by dsimp only; omega)
  | 3, H =>
    show StOk hd lk n N (if l.getD hd 0 = was then l.set hd (nextI was (zs.getD 0 0)) else l)
    split
    · exact h.set _ _ (headI_bd _ _).1 (headI_bd _ _).2
    · exact h
  | k + 4, H => exact h
theorem PuInv.step {hd lk n N : Nat} {C : Int} {l : List Int} {s : Pu} (H : PuInv n C s) (h : StOk hd lk n N l) : PuInv n (C + 1) (puStep hd l s) := by
  obtain ⟨ph, c, zs, i, was⟩ := s
  have c0 := H.c0
  have c1 := H.c1
  have hb := h.words _ (List.mem_of_getElem? (getD_some (l := l) (i := hd) (by rw [h.len]; exact h.hd1)))
  dsimp only at c0 c1
  match ph, H with
  | 0, H =>
    have hi := H.i1 rfl
    refine ⟨H.ne, H.items, H.len, fun e => ?_, H.w0, H.w1, by show 0 ≤ c + 1; omega, by show c + 1 ≤ C + 1; omega⟩
    have e' : (if i + 2 < zs.length then 0 else 1) = 0 := e
    show i + 1 + 2 ≤ zs.length
    split at e' <;> omega
  | 1, H => exact ⟨H.ne, H.items, H.len, fun e => by simp [puStep] at e, hb.1, hb.2, by show 0 ≤ c + 1; omega, by show c + 1 ≤ C + 1; omega⟩
  | 2, H => exact ⟨H.ne, H.items, H.len, fun e => by simp [puStep] at e, H.w0, H.w1, by show 0 ≤ c + 1; omega, by show c + 1 ≤ C + 1; omega⟩
  | 3, H =>
    refine ⟨H.ne, H.items, H.len, fun e => ?_, H.w0, H.w1, by show 0 ≤ c + 1; omega, by show c + 1 ≤ C + 1; omega⟩
    have e' : (if l.getD hd 0 = was then 4 else 1) = 0 := e
    split at e' <;> omega
  | k + 4, H => exact ⟨H.ne, H.items, H.len, fun e => by simp [puStep] at e, H.w0, H.w1, c0, by show c ≤ C + 1; omega⟩
structure PoInv (n : Nat) (C : Int) (s : Po) : Prop where
  ne : s.ph = 1 → s.got ≠ []
  items : ∀ z ∈ s.got, 0 ≤ z ∧ z < n
  len : (s.got.length : Int) ≤ s.c
  w0 : 0 ≤ s.was
  w1 : s.was < 18446744073709551616
  c0 : 0 ≤ s.c
  c1 : s.c ≤ C
theorem PoInv.ok {n : Nat} {C : Int} {s : Po} (h : PoInv n C s) (hC : C ≤ 900000) : PoOk n s :=
  ⟨h.ne, h.items, by have := h.len; have := h.c1; omega, h.w0, h.w1, h.c0, by have := h.c1; omega⟩
theorem PoInv.mono {n : Nat} {C D : Int} {s : Po} (h : PoInv n C s) (hC : C ≤ D) : PoInv n D s := ⟨h.ne, h.items, h.len, h.w0, h.w1, h.c0, by have := h.c1; omega⟩
theorem PoInv.step {hd lk n N : Nat} {C : Int} {l : List Int} {s : Po} (H : PoInv n C s) (h : StOk hd lk n N l) : PoInv n (C + 1) (poStep hd lk n l s) := by
  obtain ⟨ph, c, most, under, was, got⟩ := s
  have c0 := H.c0
  have c1 := H.c1
  have hlen := H.len
  have hb := h.words _ (List.mem_of_getElem? (getD_some (l := l) (i := hd) (by rw [h.len]; exact h.hd1)))
  dsimp only at c0 c1 hlen
  match ph, H with
  | 0, H =>
    show PoInv n (C + 1) (if topI n (l.getD hd 0) < 0 then _ else _)
    have bt := topI_bd n (l.getD hd 0)
    split
    · exact ⟨fun e => by simp at e, by simp, by show ((0 : Nat) : Int) ≤ c + 1; omega, hb.1, hb.2, by show 0 ≤ c + 1; omega, by show c + 1 ≤ C + 1; omega⟩
    · exact ⟨fun _ => by simp, fun z hz => by obtain rfl := List.mem_singleton.1 hz; exact ⟨by omega, bt.2⟩, by show ((1 : Nat) : Int) ≤ c + 1; omega, hb.1, hb.2, by show 0 ≤ c + 1; omega, by show c + 1 ≤ C + 1; omega⟩
  | 1, H =>
    show PoInv n (C + 1) (poLink lk n l ⟨1, c, most, under, was, got⟩)
    unfold poLink
    split
    · rename_i hbr
      have hne := H.ne rfl
      have hlast : ((lk : Int) + got.getD (got.length - 1) 0).toNat < l.length := by
        have hp := List.length_pos_iff.2 hne
        have hg : 0 ≤ got.getD (got.length - 1) 0 ∧ got.getD (got.length - 1) 0 < n := by
          rw [List.getD_eq_getElem?_getD, List.getElem?_eq_getElem (by dsimp only at hp; omega)]
          exact H.items _ (List.getElem_mem _)
        have := h.lk1
        rw [h.len]
        omega
      have bb := belowI_bd n _ (h.words _ (List.mem_of_getElem? (getD_some hlast))).1
      refine ⟨fun _ => by simp, fun z hz => ?_, ?_, H.w0, H.w1, by show 0 ≤ c + 1; omega, by show c + 1 ≤ C + 1; omega⟩
      · rcases List.mem_append.1 hz with hz | hz
        · exact H.items z hz
        · simp at hz; subst hz; exact ⟨hbr.1, bb.2⟩
      · show ((got ++ [_]).length : Int) ≤ c + 1
        simp; omega
    · exact ⟨fun e => by simp at e, H.items, by show (got.length : Int) ≤ c + 1; omega, H.w0, H.w1, by show 0 ≤ c + 1; omega, by show c + 1 ≤ C + 1; omega⟩
  | 2, H =>
    refine ⟨fun e => ?_, H.items, by show (got.length : Int) ≤ c + 1; omega, H.w0, H.w1, by show 0 ≤ c + 1; omega, by show c + 1 ≤ C + 1; omega⟩
    have e' : (if l.getD hd 0 = was then 3 else 0) = 1 := e
    split at e' <;> omega
  | k + 3, H => exact ⟨fun e => by simp [poStep] at e, H.items, hlen, H.w0, H.w1, c0, by show c ≤ C + 1; omega⟩
/-- So many steps of one, by himself. -/
def poRun (hd lk n : Nat) : Nat → List Int × Po → List Int × Po
  | 0, p => p
  | k + 1, p => (poMem hd (poRun hd lk n k p).1 (poRun hd lk n k p).2, poStep hd lk n (poRun hd lk n k p).1 (poRun hd lk n k p).2)
def puRun (hd lk n : Nat) : Nat → List Int × Pu → List Int × Pu
  | 0, p => p
  | k + 1, p => (puMem hd lk n (puRun hd lk n k p).1 (puRun hd lk n k p).2, puStep hd (puRun hd lk n k p).1 (puRun hd lk n k p).2)
theorem poRun_inv {hd lk n N : Nat} {C : Int} {p : List Int × Po} (h : StOk hd lk n N p.1) (H : PoInv n C p.2) : ∀ k : Nat, StOk hd lk n N (poRun hd lk n k p).1 ∧ PoInv n (C + k) (poRun hd lk n k p).2
  | 0 => ⟨h, H.mono (by simp)⟩
  | k + 1 => by
    have ih := poRun_inv h H k
    exact ⟨ih.1.po _, (ih.2.step ih.1).mono (by omega)⟩
theorem puRun_inv {hd lk n N : Nat} {C : Int} {p : List Int × Pu} (h : StOk hd lk n N p.1) (H : PuInv n C p.2) : ∀ k : Nat, StOk hd lk n N (puRun hd lk n k p).1 ∧ PuInv n (C + k) (puRun hd lk n k p).2
  | 0 => ⟨h, H.mono (by simp)⟩
  | k + 1 => by
    have ih := puRun_inv h H k
    exact ⟨ih.1.pu ih.2, (ih.2.step ih.1).mono (by omega)⟩
theorem poStep_count (hd lk n : Nat) (l : List Int) (s : Po) : (poStep hd lk n l s).c = s.c + poCount s := by
  obtain ⟨ph, c, most, under, was, got⟩ := s
  match ph with
  | 0 =>
    show (if topI n (l.getD hd 0) < 0 then _ else _ : Po).c = c + 1
    split <;> rfl
  | 1 =>
    show (poLink lk n l _).c = c + 1
    unfold poLink
    split <;> rfl
  | 2 => rfl
  | k + 3 =>
    have e : poCount ⟨k + 3, c, most, under, was, got⟩ = 0 := by unfold poCount; rw [if_neg (show ¬ k + 3 < 3 by omega)]
    rw [e]
    show c = c + 0
    omega
theorem puStep_count (hd : Nat) (l : List Int) (s : Pu) : (puStep hd l s).c = s.c + puCount s := by
  obtain ⟨ph, c, zs, i, was⟩ := s
  match ph with
  | 0 => rfl
  | 1 => rfl
  | 2 => rfl
  | 3 => rfl
  | k + 4 =>
    have e : puCount ⟨k + 4, c, zs, i, was⟩ = 0 := by unfold puCount; rw [if_neg (show ¬ k + 4 < 4 by omega)]
    rw [e]
    show c = c + 0
    omega
end Go.Proofs.YtaecapjicphdkaaGreat
