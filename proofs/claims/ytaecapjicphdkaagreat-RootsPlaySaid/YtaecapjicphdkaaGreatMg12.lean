/- Push and Pop as plain machines: one contract for the Step of each. -/
import Derived.Test.YtaecapjicphdkaaGreatMg11
namespace Go.Proofs.YtaecapjicphdkaaGreat
set_option linter.unusedVariables false
set_option linter.unusedSimpArgs false
open Go Go.RowKit
set_option maxRecDepth 100000

theorem entr_puLink : Entr 84 := fun args w => by kernel_rfl
theorem entr_puLoad : Entr 83 := fun args w => by kernel_rfl
theorem entr_puLast : Entr 123 := fun args w => by kernel_rfl
theorem entr_puCas : Entr 141 := fun args w => by kernel_rfl
theorem entr_poLoad : Entr 114 := fun args w => by kernel_rfl
theorem entr_poLink : Entr 134 := fun args w => by kernel_rfl
theorem entr_poCas : Entr 142 := fun args w => by kernel_rfl
section
variable {w : World} {g : Nat}
theorem puStep_of {o : Bool} {Q : World → Prop} (h : Calls Tryz.prog 57 #[.pointer (some ⟨g, 0, none⟩)] w fun e w' => e = .returned (.bool o) ∧ Q w') :
    Calls Tryz.prog 55 #[.pointer (some ⟨g, 0, none⟩)] w fun e w' => e = .returned (.bool o) ∧ Q w' := by
  have H := Lib.hid h
  clear h
  go_enter Tryz.func55, Tryz.ntmps55
  go_wp2_with (go_at_call 57; refine (H.out).mono ?_; rintro e w' ⟨rfl, hq⟩)
  go_ret
  exact ⟨rfl, hq⟩
theorem puDone_of {o : Bool} {Q : World → Prop} (h : Calls Tryz.prog 58 #[.pointer (some ⟨g, 0, none⟩)] w fun e w' => e = .returned (.bool o) ∧ Q w') :
    Calls Tryz.prog 56 #[.pointer (some ⟨g, 0, none⟩)] w fun e w' => e = .returned (.bool o) ∧ Q w' := by
  have H := Lib.hid h
  clear h
  go_enter Tryz.func56, Tryz.ntmps56
  go_wp2_with (go_at_call 58; refine (H.out).mono ?_; rintro e w' ⟨rfl, hq⟩)
  go_ret
  exact ⟨rfl, hq⟩
theorem poStep_of {o : Bool} {Q : World → Prop} (h : Calls Tryz.prog 57 #[.pointer (some ⟨g, 0, none⟩)] w fun e w' => e = .returned (.bool o) ∧ Q w') :
    Calls Tryz.prog 71 #[.pointer (some ⟨g, 0, none⟩)] w fun e w' => e = .returned (.bool o) ∧ Q w' := by
  have H := Lib.hid h
  clear h
  go_enter Tryz.func71, Tryz.ntmps71
  go_wp2_with (go_at_call 57; refine (H.out).mono ?_; rintro e w' ⟨rfl, hq⟩)
  go_ret
  exact ⟨rfl, hq⟩
theorem poDone_of {o : Bool} {Q : World → Prop} (h : Calls Tryz.prog 58 #[.pointer (some ⟨g, 0, none⟩)] w fun e w' => e = .returned (.bool o) ∧ Q w') :
    Calls Tryz.prog 72 #[.pointer (some ⟨g, 0, none⟩)] w fun e w' => e = .returned (.bool o) ∧ Q w' := by
  have H := Lib.hid h
  clear h
  go_enter Tryz.func72, Tryz.ntmps72
  go_wp2_with (go_at_call 58; refine (H.out).mono ?_; rintro e w' ⟨rfl, hq⟩)
  go_ret
  exact ⟨rfl, hq⟩
end
/-- The same, with a value that is not known ahead. -/
theorem calls_ex {f : FuncId} {args : Array Value} {w : World} {o : Value} {Q : Value → World → Prop} (h : Calls Tryz.prog f args w fun e w' => e = .returned o ∧ ∃ v', Q v' w') :
    Calls Tryz.prog f args w fun e w' => ∃ v', e = .returned o ∧ Q v' w' := h.mono fun _ _ ⟨he, v', hq⟩ => ⟨v', he, hq⟩
theorem calls_xe {f : FuncId} {args : Array Value} {w : World} {o : Value} {Q : Value → World → Prop} (h : Calls Tryz.prog f args w fun e w' => ∃ v', e = .returned o ∧ Q v' w') :
    Calls Tryz.prog f args w fun e w' => e = .returned o ∧ ∃ v', Q v' w' := h.mono fun _ _ ⟨v', he, hq⟩ => ⟨he, v', hq⟩
theorem getD_some {l : List Int} {i : Nat} (h : i < l.length) : l[i]? = some (l.getD i 0) := by
  rw [List.getD_eq_getElem?_getD, List.getElem?_eq_getElem h]; rfl
/-- A Push's state: what comes next (0 link, 1 load, 2 last, 3 cas, 4 nothing), how many accesses, its items, how many are linked, what it saw. -/
structure Pu where
  ph : Nat
  c : Int
  zs : List Int
  i : Nat
  was : Int
def puNx : Nat → Option Nat
  | 0 => some 84
  | 1 => some 83
  | 2 => some 123
  | 3 => some 141
  | _ => none
/-- It lies in block g, its items in v. -/
structure PuRep (w : World) (B g S : Nat) (v : Value) (s : Pu) : Prop where
  has : Has w g (pushOf (nxt (puNx s.ph) g) s.c S v s.i s.was) 152
  row : Row B 3 w v (ivals s.zs)
/-- One access. -/
def puStep (hd : Nat) (l : List Int) (s : Pu) : Pu :=
  match s.ph with
  | 0 => { s with ph := if s.i + 2 < s.zs.length then 0 else 1, c := s.c + 1, i := s.i + 1 }
  | 1 => { s with ph := 2, c := s.c + 1, was := l.getD hd 0 }
  | 2 => { s with ph := 3, c := s.c + 1 }
  | 3 => { s with ph := if l.getD hd 0 = s.was then 4 else 1, c := s.c + 1 }
  | _ => s
def puMem (hd lk n : Nat) (l : List Int) (s : Pu) : List Int :=
  match s.ph with
  | 0 => l.set ((lk : Int) + s.zs.getD s.i 0).toNat (s.zs.getD (s.i + 1) 0 + 1)
  | 2 => l.set ((lk : Int) + s.zs.getD (s.zs.length - 1) 0).toNat (topI n s.was + 1)
  | 3 => if l.getD hd 0 = s.was then l.set hd (nextI s.was (s.zs.getD 0 0)) else l
  | _ => l
def puCount (s : Pu) : Int := if s.ph < 4 then 1 else 0
/-- A memory of a stack's cells. -/
structure StOk (hd lk n N : Nat) (l : List Int) : Prop where
  len : l.length = N
  small : N ≤ 9000000
  hd1 : hd < N
  lk1 : lk + n ≤ N
  n1 : n ≤ 4096
  words : ∀ v ∈ l, 0 ≤ v ∧ v < 18446744073709551616
structure PuOk (n : Nat) (s : Pu) : Prop where
  ne : s.zs ≠ []
  items : ∀ z ∈ s.zs, 0 ≤ z ∧ z < n
  len : s.zs.length ≤ 1000000
  i1 : s.ph = 0 → s.i + 2 ≤ s.zs.length
  w0 : 0 ≤ s.was
  w1 : s.was < 18446744073709551616
  c0 : 0 ≤ s.c
  c1 : s.c < 1000000
theorem topI_bd (n : Nat) (x : Int) : -1 ≤ topI n x ∧ topI n x < n := by
  unfold topI
  split
  · have := Int.emod_nonneg x (show (4294967296 : Int) ≠ 0 by omega); omega
  · omega
theorem belowI_bd (n : Nat) (x : Int) (h : 0 ≤ x) : -1 ≤ belowI n x ∧ belowI n x < n := by
  unfold belowI
  split <;> omega
section
variable {w : World} {S m b N hd lk n B : Nat} {l : List Int} {cc : Int} {x : Acc} {g : Nat} {v : Value}
theorem Row.formI {zs : List Int} (h : Row B 3 w v (ivals zs)) (hz : zs ≠ []) : ∃ lb cap cur, v = .slice (some ⟨lb, 0, none⟩) zs.length cap ∧ Has w lb cur 3 ∧ ∀ (i : Nat), i < zs.length → cur[i]? = some (.int .i64 (zs.getD i 0)) := by
  obtain ⟨hl, ⟨rfl, hn⟩ | ⟨g, cap, cur, rfl, hB, hg, h1, h2, h3, h4⟩⟩ := h
  · exact absurd (List.length_eq_zero_iff.1 (by simpa using hn)) hz
  · refine ⟨g, cap, cur, by simp, hg, fun i hi => ?_⟩
    have h5 : (ivals zs)[i]? = some (.int .i64 (zs.getD i 0)) := by simp [List.getD_eq_getElem?_getD, List.getElem?_eq_getElem hi]
    rw [← h4, List.getElem?_take_of_lt (by simpa using hi)] at h5
    simpa using h5
theorem items_at {s : Pu} {n : Nat} (h : ∀ z ∈ s.zs, 0 ≤ z ∧ z < n) {i : Nat} (hi : i < s.zs.length) : 0 ≤ s.zs.getD i 0 ∧ s.zs.getD i 0 < n := by
  rw [List.getD_eq_getElem?_getD, List.getElem?_eq_getElem hi]
  exact h _ (List.getElem_mem hi)
theorem puStep_c {s : Pu} (hg : PuRep w B g S v s) (hS : Has w S (stackOf m hd lk n) 143) (M : Mem w m b N l cc x) (L : StOk hd lk n N l) (H : PuOk n s) (hcc : cc < 4611686018427387903) :
    Calls Tryz.prog 55 #[.pointer (some ⟨g, 0, none⟩)] w fun e w' => e = .returned (.bool (decide (s.ph < 4))) ∧ Upd [g, m, b] w w' ∧
      PuRep w' B g S v (puStep hd l s) ∧ ∃ x', Mem w' m b N (puMem hd lk n l s) (cc + puCount s) x' := by
  obtain ⟨ph, c, zs, i, was⟩ := s
  obtain ⟨hz, items, zlen, i1, w0, u1, c0, c1⟩ := H
  obtain ⟨has, row⟩ := hg
  dsimp only at *
  have hl1 := L.lk1
  have hl2 := L.len
  have hl3 := L.small
  have hl4 := L.n1
  have hl5 := L.hd1
  have zpos : 0 < zs.length := List.length_pos_iff.2 hz
  obtain ⟨lb, cap, cur, rfl, hL, hcur⟩ := row.formI hz
  have ngS : S ≠ g := (Has.ne has hS (by decide)).symm
  have ngm : m ≠ g := (Has.ne has M.hg (by decide)).symm
  have ngb : b ≠ g := (Has.ne has M.hb (by decide)).symm
  have ngl : lb ≠ g := (Has.ne has hL (by decide)).symm
  have nlm : lb ≠ m := Has.ne hL M.hg (by decide)
  have nlb : lb ≠ b := Has.ne hL M.hb (by decide)
  have rowU : ∀ w2, Upd [g, m, b] w w2 → Row B 3 w2 (.slice (some ⟨lb, 0, none⟩) zs.length cap) (ivals zs) := fun w2 hu => row.upd hu (by simp; exact ⟨ngl, nlm, nlb⟩)
  match ph, has, i1 with
  | 0, has, i1 =>
    have hi := i1 rfl
    refine puStep_of (mstep_c entr_puLink has c0 (by omega) (fun w1 hu h1 => ?_))
    have hS1 := hS.upd hu (by simp; exact ngS)
    have M1 := M.upd hu (by simp; exact ngm) (by simp; exact ngb)
    have hL1 := hL.upd hu (by simp; exact ngl)
    have b1 := items_at (s := ⟨0, c, zs, i, was⟩) items (i := i) (show i < zs.length by omega)
    have b2 := items_at (s := ⟨0, c, zs, i, was⟩) items (i := i + 1) (show i + 1 < zs.length by omega)
    dsimp only at b1 b2
    have hq : (lk : Int) + zs.getD i 0 = (((lk : Int) + zs.getD i 0).toNat : Nat) := by omega
    have ho : l[((lk : Int) + zs.getD i 0).toNat]? = some (l.getD ((lk : Int) + zs.getD i 0).toNat 0) := getD_some (by omega)
    have em : puMem hd lk n l ⟨0, c, zs, i, was⟩ = l.set ((lk : Int) + zs.getD i 0).toNat (zs.getD (i + 1) 0 + 1) := rfl
    have ec : puCount ⟨0, c, zs, i, was⟩ = 1 := rfl
    have es : puStep hd l ⟨0, c, zs, i, was⟩ = ⟨if i + 2 < zs.length then 0 else 1, c + 1, zs, i + 1, was⟩ := rfl
    rw [em, ec, es]
    by_cases h3 : i + 2 < zs.length
    · rw [if_pos h3]
      refine (pushLink_on h1 hS1 M1 hL1 (hcur i (by omega)) (hcur (i + 1) (by omega)) h3 zlen hq (by omega) ho b2.1 (by omega) hcc).mono ?_
      rintro e w' ⟨rfl, hu2, h2, M2⟩
      have hu12 := (hu.mono (T := [g, m, b]) (by simp)).trans hu2
      exact ⟨rfl, hu12, ⟨by rw [show (((i + 1 : Nat) : Int)) = (i : Int) + 1 from by omega]; exact h2, rowU _ hu12⟩, _, M2⟩
    · rw [if_neg h3]
      refine (pushLink_end h1 hS1 M1 hL1 (hcur i (by omega)) (hcur (i + 1) (by omega)) (by omega) zlen hq (by omega) ho b2.1 (by omega) hcc).mono ?_
      rintro e w' ⟨rfl, hu2, h2, M2⟩
      have hu12 := (hu.mono (T := [g, m, b]) (by simp)).trans hu2
      exact ⟨rfl, hu12, ⟨by rw [show (((i + 1 : Nat) : Int)) = (i : Int) + 1 from by omega]; exact h2, rowU _ hu12⟩, _, M2⟩
  | 1, has, i1 =>
    refine puStep_of (mstep_c entr_puLoad has c0 (by omega) (fun w1 hu h1 => ?_))
    have hS1 := hS.upd hu (by simp; exact ngS)
    have M1 := M.upd hu (by simp; exact ngm) (by simp; exact ngb)
    refine (pushLoad_c h1 hS1 M1 (getD_some (by omega)) hcc).mono ?_
    rintro e w' ⟨rfl, hu2, h2, M2⟩
    have hu12 := (hu.mono (T := [g, m, b]) (by simp)).trans hu2
    exact ⟨rfl, hu12, ⟨h2, rowU _ hu12⟩, _, M2⟩
  | 2, has, i1 =>
    refine puStep_of (mstep_c entr_puLast has c0 (by omega) (fun w1 hu h1 => ?_))
    have hS1 := hS.upd hu (by simp; exact ngS)
    have M1 := M.upd hu (by simp; exact ngm) (by simp; exact ngb)
    have hL1 := hL.upd hu (by simp; exact ngl)
    have b1 := items_at (s := ⟨2, c, zs, i, was⟩) items (i := zs.length - 1) (show zs.length - 1 < zs.length by omega)
    dsimp only at b1
    have hq : (lk : Int) + zs.getD (zs.length - 1) 0 = (((lk : Int) + zs.getD (zs.length - 1) 0).toNat : Nat) := by omega
    have ho : l[((lk : Int) + zs.getD (zs.length - 1) 0).toNat]? = some (l.getD ((lk : Int) + zs.getD (zs.length - 1) 0).toNat 0) := getD_some (by omega)
    have bt := topI_bd n was
    refine (pushLast_c h1 hS1 M1 hL1 (hcur (zs.length - 1) (by omega)) zpos zlen hq (by omega) ho w0 u1 rfl bt.1 (by omega) hcc).mono ?_
    rintro e w' ⟨rfl, hu2, h2, M2⟩
    have hu12 := (hu.mono (T := [g, m, b]) (by simp)).trans hu2
    exact ⟨rfl, hu12, ⟨h2, rowU _ hu12⟩, _, M2⟩
  | 3, has, i1 =>
    refine puStep_of (mstep_c entr_puCas has c0 (by omega) (fun w1 hu h1 => ?_))
    have hS1 := hS.upd hu (by simp; exact ngS)
    have M1 := M.upd hu (by simp; exact ngm) (by simp; exact ngb)
    have hL1 := hL.upd hu (by simp; exact ngl)
    have ho : l[hd]? = some (l.getD hd 0) := getD_some (by omega)
    have em : puMem hd lk n l ⟨3, c, zs, i, was⟩ = if l.getD hd 0 = was then l.set hd (nextI was (zs.getD 0 0)) else l := rfl
    have ec : puCount ⟨3, c, zs, i, was⟩ = 1 := rfl
    have es : puStep hd l ⟨3, c, zs, i, was⟩ = ⟨if l.getD hd 0 = was then 4 else 1, c + 1, zs, i, was⟩ := rfl
    rw [em, ec, es]
    by_cases h : l.getD hd 0 = was
    · rw [if_pos h, if_pos h]
      refine (pushCas_eq h1 hS1 M1 hL1 (hcur 0 (by omega)) zpos (by rw [ho, h]) w0 u1 hcc).mono ?_
      rintro e w' ⟨rfl, hu2, h2, M2⟩
      have hu12 := (hu.mono (T := [g, m, b]) (by simp)).trans hu2
      exact ⟨rfl, hu12, ⟨h2, rowU _ hu12⟩, _, M2⟩
    · rw [if_neg h, if_neg h]
      refine (pushCas_ne h1 hS1 M1 hL1 (hcur 0 (by omega)) zpos ho w0 u1 hcc h).mono ?_
      rintro e w' ⟨rfl, hu2, h2, M2⟩
      have hu12 := (hu.mono (T := [g, m, b]) (by simp)).trans hu2
      exact ⟨rfl, hu12, ⟨h2, rowU _ hu12⟩, _, M2⟩
  | k + 4, has, i1 =>
    refine puStep_of ((mstep_nil has).mono ?_)
    rintro e w' ⟨rfl, rfl⟩
    refine ⟨by simp, Upd.refl _ _, ⟨has, row⟩, x, ?_⟩
    have e1 : puCount ⟨k + 4, c, zs, i, was⟩ = 0 := by unfold puCount; rw [if_neg (show ¬ k + 4 < 4 by omega)]
    rw [e1]
    simpa [puMem] using M
theorem puDone_c {s : Pu} (hg : PuRep w B g S v s) :
    Calls Tryz.prog 56 #[.pointer (some ⟨g, 0, none⟩)] w fun e w' => e = .returned (.bool (decide (4 ≤ s.ph))) ∧ w = w' := by
  refine puDone_of ((mdone_c hg.has).mono ?_)
  rintro e w' ⟨rfl, rfl⟩
  refine ⟨?_, rfl⟩
  congr 2
  match s.ph with
  | 0 => rfl
  | 1 => rfl
  | 2 => rfl
  | 3 => rfl
  | k + 4 => simp [puNx]
end
/-- A Pop's state: what comes next (0 load, 1 link, 2 cas, 3 nothing), how many accesses, how many it may take, what is below, what it saw, what it has. -/
structure Po where
  ph : Nat
  c : Int
  most : Int
  under : Int
  was : Int
  got : List Int
def poNx : Nat → Option Nat
  | 0 => some 114
  | 1 => some 134
  | 2 => some 142
  | _ => none
structure PoRep (w : World) (B g S : Nat) (v : Value) (s : Po) : Prop where
  has : Has w g (popOf (nxt (poNx s.ph) g) s.c S s.most s.under s.was v) 177
  row : Row B 3 w v (ivals s.got)
/-- What a link says, of the last one that it has. -/
def poBelow (lk n : Nat) (l : List Int) (s : Po) : Int := belowI n (l.getD ((lk : Int) + s.got.getD (s.got.length - 1) 0).toNat 0)
def poLink (lk n : Nat) (l : List Int) (s : Po) : Po :=
  if 0 ≤ poBelow lk n l s ∧ (s.got.length : Int) < s.most then { s with c := s.c + 1, under := poBelow lk n l s, got := s.got ++ [poBelow lk n l s] }
  else { s with ph := 2, c := s.c + 1, under := poBelow lk n l s }
def poStep (hd lk n : Nat) (l : List Int) (s : Po) : Po :=
  match s.ph with
  | 0 => if topI n (l.getD hd 0) < 0 then { s with ph := 3, c := s.c + 1, was := l.getD hd 0, got := [] } else { s with ph := 1, c := s.c + 1, was := l.getD hd 0, got := [topI n (l.getD hd 0)] }
  | 1 => poLink lk n l s
  | 2 => { s with ph := if l.getD hd 0 = s.was then 3 else 0, c := s.c + 1 }
  | _ => s
def poMem (hd : Nat) (l : List Int) (s : Po) : List Int :=
  match s.ph with
  | 2 => if l.getD hd 0 = s.was then l.set hd (nextI s.was s.under) else l
  | _ => l
def poCount (s : Po) : Int := if s.ph < 3 then 1 else 0
structure PoOk (n : Nat) (s : Po) : Prop where
  ne : s.ph = 1 → s.got ≠ []
  items : ∀ z ∈ s.got, 0 ≤ z ∧ z < n
  len : s.got.length ≤ 1000000
  w0 : 0 ≤ s.was
  w1 : s.was < 18446744073709551616
  c0 : 0 ≤ s.c
  c1 : s.c < 1000000
theorem Row.slice {B : Nat} {w : World} {t : TypeId} {v : Value} {xs : List Value} (h : Row B t w v xs) : ∃ a cap, v = .slice a xs.length cap := by
  obtain ⟨a, cap, hv, _⟩ := h.form
  exact ⟨a, cap, hv⟩
section
variable {w : World} {S m b N hd lk n B : Nat} {l : List Int} {cc : Int} {x : Acc} {g : Nat} {v : Value} {s : Po}
theorem poStep_c (hg : PoRep w B g S v s) (hS : Has w S (stackOf m hd lk n) 143) (M : Mem w m b N l cc x) (L : StOk hd lk n N l) (H : PoOk n s) (hB : B ≤ w.heap.size) (hcc : cc < 4611686018427387903) :
    Calls Tryz.prog 71 #[.pointer (some ⟨g, 0, none⟩)] w fun e w' => ∃ v', e = .returned (.bool (decide (s.ph < 3))) ∧ Upd (g :: m :: b :: ownB v) w w' ∧
      PoRep w' B g S v' (poStep hd lk n l s) ∧ (∃ x', Mem w' m b N (poMem hd l s) (cc + poCount s) x') ∧ (∀ y ∈ ownB v', y ∈ ownB v ∨ w.heap.size ≤ y) := by
  obtain ⟨ph, c, most, under, was, got⟩ := s
  obtain ⟨hz, items, zlen, w0, u1, c0, c1⟩ := H
  obtain ⟨has, row⟩ := hg
  dsimp only at *
  have hl1 := L.lk1
  have hl2 := L.len
  have hl3 := L.small
  have hl4 := L.n1
  have hl5 := L.hd1
  have ngS : S ≠ g := (Has.ne has hS (by decide)).symm
  have ngm : m ≠ g := (Has.ne has M.hg (by decide)).symm
  have ngb : b ≠ g := (Has.ne has M.hb (by decide)).symm
  have rn1 := row.ne has (by decide)
  have rn2 := row.ne M.hg (by decide)
  have rn3 := row.ne M.hb (by decide)
  have rowU : ∀ w2, Upd [g, m, b] w w2 → Row B 3 w2 v (ivals got) := fun w2 hu => row.upd hu (fun y hy => by simp; exact ⟨rn1 y hy, rn2 y hy, rn3 y hy⟩)
  have up3 : ∀ {a b2 : World}, Upd [g, m, b] a b2 → Upd (g :: m :: b :: ownB v) a b2 := fun h => h.mono (fun y hy => by simp at hy ⊢; rcases hy with h | h | h <;> simp [h])
  have up1 : ∀ {a b2 : World}, Upd [g] a b2 → Upd [g, m, b] a b2 := fun h => h.mono (by simp)
  obtain ⟨ad, cap, hv⟩ := row.slice
  have ho : l[hd]? = some (l.getD hd 0) := getD_some (by omega)
  have hob := L.words _ (List.mem_of_getElem? ho)
  match ph, has, hz with
  | 0, has, hz =>
    have em : poMem hd l ⟨0, c, most, under, was, got⟩ = l := rfl
    have ec : poCount ⟨0, c, most, under, was, got⟩ = 1 := rfl
    have es : poStep hd lk n l ⟨0, c, most, under, was, got⟩ = if topI n (l.getD hd 0) < 0 then ⟨3, c + 1, most, under, l.getD hd 0, []⟩ else ⟨1, c + 1, most, under, l.getD hd 0, [topI n (l.getD hd 0)]⟩ := rfl
    rw [em, ec, es]
    by_cases ht : topI n (l.getD hd 0) < 0
    · rw [if_pos ht]
      subst hv
      refine (poStep_of (mstep_c (Q := fun w' => Upd (g :: m :: b :: ownB _) w w' ∧ PoRep w' B g S (.slice none 0 0) _ ∧ ∃ x', Mem w' m b N _ _ x') entr_poLoad has c0 (by omega) (fun w1 hu h1 => ?_))).mono (fun e w' ⟨he, h1, h2, h3⟩ => ⟨_, he, h1, h2, h3, by simp⟩)
      have hS1 := hS.upd hu (by simp; exact ngS)
      have M1 := M.upd hu (by simp; exact ngm) (by simp; exact ngb)
      refine (popLoad_none h1 hS1 M1 ho hob.1 hob.2 rfl ht hcc).mono ?_
      rintro e w' ⟨rfl, hu2, h2, M2⟩
      exact ⟨rfl, up3 ((up1 hu).trans hu2), ⟨h2, Row.nil _ _ _⟩, _, M2⟩
    · rw [if_neg ht]
      subst hv
      refine calls_ex (poStep_of (mstep_c entr_poLoad has c0 (by omega) (fun w1 hu h1 => calls_xe ?_)))
      have hS1 := hS.upd hu (by simp; exact ngS)
      have M1 := M.upd hu (by simp; exact ngm) (by simp; exact ngb)
      refine (popLoad_some h1 hS1 M1 ho hob.1 hob.2 rfl (by omega) hcc (Nat.le_refl _)).mono ?_
      rintro e w' ⟨v', rfl, hu2, h2, M2, R2⟩
      have k1 := hu.size
      exact ⟨v', rfl, up3 ((up1 hu).trans hu2), ⟨h2, R2.mono (by omega)⟩, ⟨_, M2⟩, fun y hy => .inr (by have := (R2.own y hy).1; omega)⟩
  | 1, has, hz =>
    have hne := hz rfl
    obtain ⟨k, hk⟩ : ∃ k, got.length = k + 1 := ⟨got.length - 1, by have := List.length_pos_iff.2 hne; omega⟩
    obtain ⟨lb, cap', cur, hv', hL, hcur⟩ := row.formI hne
    rw [hk] at hv'
    subst hv'
    have ngl : lb ≠ g := (Has.ne has hL (by decide)).symm
    have b1 : 0 ≤ got.getD k 0 ∧ got.getD k 0 < n := by
      rw [List.getD_eq_getElem?_getD, List.getElem?_eq_getElem (by omega)]
      exact items _ (List.getElem_mem _)
    have hq : (lk : Int) + got.getD k 0 = (((lk : Int) + got.getD k 0).toNat : Nat) := by omega
    have hol : l[((lk : Int) + got.getD k 0).toNat]? = some (l.getD ((lk : Int) + got.getD k 0).toNat 0) := getD_some (by omega)
    have hlb := L.words _ (List.mem_of_getElem? hol)
    have bb := belowI_bd n _ hlb.1
    have em : poMem hd l ⟨1, c, most, under, was, got⟩ = l := rfl
    have ec : poCount ⟨1, c, most, under, was, got⟩ = 1 := rfl
    have eb : poBelow lk n l ⟨1, c, most, under, was, got⟩ = belowI n (l.getD ((lk : Int) + got.getD k 0).toNat 0) := by unfold poBelow; dsimp only; rw [hk]; rfl
    have es : poStep hd lk n l ⟨1, c, most, under, was, got⟩ = poLink lk n l ⟨1, c, most, under, was, got⟩ := rfl
    rw [em, ec, es]
    unfold poLink
    rw [eb]
    dsimp only
    have hown : w.ownsRow B 3 1 (.slice (some ⟨lb, 0, none⟩) (k + 1) cap') (k + 1) (ivals got) := by
      have h := row
      unfold Row at h
      rwa [show (ivals got).length = k + 1 by simp [hk]] at h
    by_cases hbr : 0 ≤ belowI n (l.getD ((lk : Int) + got.getD k 0).toNat 0) ∧ (got.length : Int) < most
    · rw [if_pos hbr]
      refine calls_ex (poStep_of (mstep_c entr_poLink has c0 (by omega) (fun w1 hu h1 => calls_xe ?_)))
      have hS1 := hS.upd hu (by simp; exact ngS)
      have M1 := M.upd hu (by simp; exact ngm) (by simp; exact ngb)
      have hL1 := hL.upd hu (by simp; exact ngl)
      have hown1 := own_upd hown hu (by simp; exact ngl)
      have k1 := hu.size
      refine (popLink_on h1 hS1 M1 hL1 (hcur k (by omega)) (by omega) hq (by omega) hol hlb.1 hlb.2 (by omega) (by omega) rfl bb.1 (by omega) hcc hbr.1 (by omega) hown1 (by omega)).mono ?_
      rintro e w' ⟨v', rfl, hu2, h2, M2, R2, hw⟩
      refine ⟨v', rfl, ?_, ⟨h2, ?_⟩, ⟨_, M2⟩, ?_⟩
      · exact (hu.mono (T := g :: m :: b :: ownB _) (by simp)).trans (hu2.mono (by simp))
      · have h := R2
        unfold Row
        simp only [ivals, List.map_append, List.map_cons, List.map_nil]
        rw [show (List.map (Value.int .i64) got ++ [Value.int .i64 (belowI n (l.getD ((lk : Int) + got.getD k 0).toNat 0))]).length = k + 2 by simp [hk]]
        exact h
      · intro y hy
        rcases hw with hw | ⟨r, hw, hr⟩
        · left; rw [hw] at hy; simpa using hy
        · right; rw [hw] at hy; simp at hy; omega
    · rw [if_neg hbr]
      refine calls_ex (poStep_of (mstep_c entr_poLink has c0 (by omega) (fun w1 hu h1 => calls_xe ?_)))
      have hS1 := hS.upd hu (by simp; exact ngS)
      have M1 := M.upd hu (by simp; exact ngm) (by simp; exact ngb)
      have hL1 := hL.upd hu (by simp; exact ngl)
      have fin : ∀ (e : Ending) (w' : World), (e = .returned (.tuple #[]) ∧ Upd [g, m, b] w1 w' ∧ Has w' g (popOf (bound 142 g) (c + 1) S most (belowI n (l.getD ((lk : Int) + got.getD k 0).toNat 0)) was (.slice (some ⟨lb, 0, none⟩) (k + 1) cap')) 177 ∧ Mem w' m b N l (cc + 1) ⟨1, ((lk : Int) + got.getD k 0).toNat, l.getD ((lk : Int) + got.getD k 0).toNat 0, l.getD ((lk : Int) + got.getD k 0).toNat 0, true⟩) →
          ∃ v', e = .returned (.tuple #[]) ∧ Upd (g :: m :: b :: ownB (.slice (some ⟨lb, 0, none⟩) (k + 1) cap')) w w' ∧ PoRep w' B g S v' ⟨2, c + 1, most, belowI n (l.getD ((lk : Int) + got.getD k 0).toNat 0), was, got⟩ ∧ (∃ x', Mem w' m b N l (cc + 1) x') ∧ (∀ y ∈ ownB v', y ∈ ownB (.slice (some ⟨lb, 0, none⟩) (k + 1) cap') ∨ w.heap.size ≤ y) := by
        rintro e w' ⟨rfl, hu2, h2, M2⟩
        have hu12 := (up1 hu).trans hu2
        exact ⟨_, rfl, up3 hu12, ⟨h2, rowU _ hu12⟩, ⟨_, M2⟩, fun y hy => .inl hy⟩
      by_cases hb0 : 0 ≤ belowI n (l.getD ((lk : Int) + got.getD k 0).toNat 0)
      · exact (popLink_full h1 hS1 M1 hL1 (hcur k (by omega)) (by omega) hq (by omega) hol hlb.1 hlb.2 (by omega) (by omega) rfl bb.1 (by omega) hcc hb0 (by omega)).mono fin
      · exact (popLink_bare h1 hS1 M1 hL1 (hcur k (by omega)) (by omega) hq (by omega) hol hlb.1 hlb.2 (by omega) (by omega) rfl bb.1 (by omega) hcc (by omega)).mono fin
  | 2, has, hz =>
    subst hv
    have em : poMem hd l ⟨2, c, most, under, was, got⟩ = if l.getD hd 0 = was then l.set hd (nextI was under) else l := rfl
    have ec : poCount ⟨2, c, most, under, was, got⟩ = 1 := rfl
    have es : poStep hd lk n l ⟨2, c, most, under, was, got⟩ = ⟨if l.getD hd 0 = was then 3 else 0, c + 1, most, under, was, got⟩ := rfl
    rw [em, ec, es]
    refine calls_ex (poStep_of (mstep_c entr_poCas has c0 (by omega) (fun w1 hu h1 => calls_xe ?_)))
    have hS1 := hS.upd hu (by simp; exact ngS)
    have M1 := M.upd hu (by simp; exact ngm) (by simp; exact ngb)
    by_cases h : l.getD hd 0 = was
    · rw [if_pos h, if_pos h]
      refine (popCas_eq h1 hS1 M1 (by rw [ho, h]) w0 u1 hcc).mono ?_
      rintro e w' ⟨rfl, hu2, h2, M2⟩
      have hu12 := (up1 hu).trans hu2
      exact ⟨_, rfl, up3 hu12, ⟨h2, rowU _ hu12⟩, ⟨_, M2⟩, fun y hy => .inl hy⟩
    · rw [if_neg h, if_neg h]
      refine (popCas_ne h1 hS1 M1 ho w0 u1 hcc h).mono ?_
      rintro e w' ⟨rfl, hu2, h2, M2⟩
      have hu12 := (up1 hu).trans hu2
      exact ⟨_, rfl, up3 hu12, ⟨h2, rowU _ hu12⟩, ⟨_, M2⟩, fun y hy => .inl hy⟩
  | k + 3, has, hz =>
    refine calls_ex (poStep_of ((mstep_nil has).mono ?_))
    rintro e w' ⟨rfl, rfl⟩
    refine ⟨by simp, v, Upd.refl _ _, ⟨has, row⟩, ⟨x, ?_⟩, fun y hy => .inl hy⟩
    have e1 : poCount ⟨k + 3, c, most, under, was, got⟩ = 0 := by unfold poCount; rw [if_neg (show ¬ k + 3 < 3 by omega)]
    rw [e1]
    simpa [poMem] using M
theorem poDone_c (hg : PoRep w B g S v s) :
    Calls Tryz.prog 72 #[.pointer (some ⟨g, 0, none⟩)] w fun e w' => e = .returned (.bool (decide (3 ≤ s.ph))) ∧ w = w' := by
  refine poDone_of ((mdone_c hg.has).mono ?_)
  rintro e w' ⟨rfl, rfl⟩
  refine ⟨?_, rfl⟩
  congr 2
  match s.ph with
  | 0 => rfl
  | 1 => rfl
  | 2 => rfl
  | k + 3 => simp [poNx]
end
end Go.Proofs.YtaecapjicphdkaaGreat
