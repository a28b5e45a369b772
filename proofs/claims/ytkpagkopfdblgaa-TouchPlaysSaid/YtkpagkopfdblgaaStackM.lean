/- Push and Pop as plain machines: one contract for the Step of each. -/
import Derived.Test.YtkpagkopfdblgaaStackN
namespace Go.Proofs.Ytkpagkopfdblgaa
set_option linter.unusedVariables false
set_option linter.unusedSimpArgs false
open Go Go.RowKit
set_option maxRecDepth 100000

section
variable {w : World} {g : Nat}
end
/-- The same, with a value that is not known ahead. -/
theorem calls_ex {f : FuncId} {args : Array Value} {w : World} {o : Value} {Q : Value → World → Prop} (h : Calls Try.prog f args w fun e w' => e = .returned o ∧ ∃ v', Q v' w') :
    Calls Try.prog f args w fun e w' => ∃ v', e = .returned o ∧ Q v' w' := h.mono fun _ _ ⟨he, v', hq⟩ => ⟨v', he, hq⟩
theorem calls_xe {f : FuncId} {args : Array Value} {w : World} {o : Value} {Q : Value → World → Prop} (h : Calls Try.prog f args w fun e w' => ∃ v', e = .returned o ∧ Q v' w') :
    Calls Try.prog f args w fun e w' => e = .returned o ∧ ∃ v', Q v' w' := h.mono fun _ _ ⟨v', he, hq⟩ => ⟨he, v', hq⟩
theorem getD_some {l : List Int} {i : Nat} (h : i < l.length) : l[i]? = some (l.getD i 0) := by
  rw [List.getD_eq_getElem?_getD, List.getElem?_eq_getElem h]; rfl
/-- A Push's state: what comes next (0 link, 1 load, 2 last, 3 cas, 4 nothing), how many accesses, its items, how many are linked, what it saw. -/
structure Pu where
  ph : Nat
  c : Int
  zs : List Int
  i : Nat
  was : Int
/-- One access. -/
def puStep (hd : Nat) (l : List Int) (s : Pu) : Pu :=
  match s.ph with
  | 0 => { s with ph := if s.i + 2 < s.zs.length then 0 else 1, c := s.c + 1, i := s.i + 1 }
  | 1 => { s with ph := 2, c := s.c + 1, was := l.getD hd 0 }
  | 2 => { s with ph := 3, c := s.c + 1 }
  | 3 => { s with ph := if l.getD hd 0 = s.was then 4 else 1, c := s.c + 1 }
  | _ => s
def puMem (hd lk n : Nat) (l : List Int) (s : Pu) : List Int :=
  match s.ph with
  | 0 => l.set ((lk : Int) + s.zs.getD s.i 0).toNat (s.zs.getD (s.i + 1) 0 + 1)
  | 2 => l.set ((lk : Int) + s.zs.getD (s.zs.length - 1) 0).toNat (topI n s.was + 1)
  | 3 => if l.getD hd 0 = s.was then l.set hd (nextI s.was (s.zs.getD 0 0)) else l
  | _ => l
def puCount (s : Pu) : Int := if s.ph < 4 then 1 else 0
/-- A memory of a stack's cells. -/
structure StOk (hd lk n N : Nat) (l : List Int) : Prop where
  len : l.length = N
  small : N ≤ 9000000
  hd1 : hd < N
  lk1 : lk + n ≤ N
  n1 : n ≤ 4096
  words : ∀ v ∈ l, 0 ≤ v ∧ v < 18446744073709551616
structure PuOk (n : Nat) (s : Pu) : Prop where
  ne : s.zs ≠ []
  items : ∀ z ∈ s.zs, 0 ≤ z ∧ z < n
  len : s.zs.length ≤ 1000000
  i1 : s.ph = 0 → s.i + 2 ≤ s.zs.length
  w0 : 0 ≤ s.was
  w1 : s.was < 18446744073709551616
  c0 : 0 ≤ s.c
  c1 : s.c < 1000000
theorem topI_bd (n : Nat) (x : Int) : -1 ≤ topI n x ∧ topI n x < n := by
  unfold topI
  split
  · have := Int.emod_nonneg x (show (4294967296 : Int) ≠ 0 by omega); omega
  · omega
theorem belowI_bd (n : Nat) (x : Int) (h : 0 ≤ x) : -1 ≤ belowI n x ∧ belowI n x < n := by
  unfold belowI
  split <;> omega
section
variable {w : World} {S m b N hd lk n B : Nat} {l : List Int} {cc : Int} {x : Acc} {g : Nat} {v : Value}
theorem Row.formI {zs : List Int} (h : Row B 3 w v (ivals zs)) (hz : zs ≠ []) : ∃ lb cap cur, v = .slice (some ⟨lb, 0, none⟩) zs.length cap ∧ Has w lb cur 3 ∧ ∀ (i : Nat), i < zs.length → cur[i]? = some (.int .i64 (zs.getD i 0)) := by
  obtain ⟨hl, ⟨rfl, hn⟩ | ⟨g, cap, cur, rfl, hB, hg, h1, h2, h3, h4⟩⟩ := h
  · exact absurd (List.length_eq_zero_iff.1 (by simpa using hn)) hz
  · refine ⟨g, cap, cur, by simp, hg, fun i hi => ?_⟩
    have h5 : (ivals zs)[i]? = some (.int .i64 (zs.getD i 0)) := by simp [List.getD_eq_getElem?_getD, List.getElem?_eq_getElem hi]
    rw [← h4, List.getElem?_take_of_lt (by simpa using hi)] at h5
    simpa using h5
theorem items_at {s : Pu} {n : Nat} (h : ∀ z ∈ s.zs, 0 ≤ z ∧ z < n) {i : Nat} (hi : i < s.zs.length) : 0 ≤ s.zs.getD i 0 ∧ s.zs.getD i 0 < n := by
  rw [List.getD_eq_getElem?_getD, List.getElem?_eq_getElem hi]
  exact h _ (List.getElem_mem hi)
end
/-- A Pop's state: what comes next (0 load, 1 link, 2 cas, 3 nothing), how many accesses, how many it may take, what is below, what it saw, what it has. -/
structure Po where
  ph : Nat
  c : Int
  most : Int
  under : Int
  was : Int
  got : List Int
/-- What a link says, of the last one that it has. -/
def poBelow (lk n : Nat) (l : List Int) (s : Po) : Int := belowI n (l.getD ((lk : Int) + s.got.getD (s.got.length - 1) 0).toNat 0)
def poLink (lk n : Nat) (l : List Int) (s : Po) : Po :=
  if 0 ≤ poBelow lk n l s ∧ (s.got.length : Int) < s.most then { s with c := s.c + 1, under := poBelow lk n l s, got := s.got ++ [poBelow lk n l s] }
  else { s with ph := 2, c := s.c + 1, under := poBelow lk n l s }
def poStep (hd lk n : Nat) (l : List Int) (s : Po) : Po :=
  match s.ph with
  | 0 => if topI n (l.getD hd 0) < 0 then { s with ph := 3, c := s.c + 1, was := l.getD hd 0, got := [] } else { s with ph := 1, c := s.c + 1, was := l.getD hd 0, got := [topI n (l.getD hd 0)] }
  | 1 => poLink lk n l s
  | 2 => { s with ph := if l.getD hd 0 = s.was then 3 else 0, c := s.c + 1 }
  | _ => s
def poMem (hd : Nat) (l : List Int) (s : Po) : List Int :=
  match s.ph with
  | 2 => if l.getD hd 0 = s.was then l.set hd (nextI s.was s.under) else l
  | _ => l
def poCount (s : Po) : Int := if s.ph < 3 then 1 else 0
structure PoOk (n : Nat) (s : Po) : Prop where
  ne : s.ph = 1 → s.got ≠ []
  items : ∀ z ∈ s.got, 0 ≤ z ∧ z < n
  len : s.got.length ≤ 1000000
  w0 : 0 ≤ s.was
  w1 : s.was < 18446744073709551616
  c0 : 0 ≤ s.c
  c1 : s.c < 1000000
theorem Row.slice {B : Nat} {w : World} {t : TypeId} {v : Value} {xs : List Value} (h : Row B t w v xs) : ∃ a cap, v = .slice a xs.length cap := by
  obtain ⟨a, cap, hv, _⟩ := h.form
  exact ⟨a, cap, hv⟩
section
variable {w : World} {S m b N hd lk n B : Nat} {l : List Int} {cc : Int} {x : Acc} {g : Nat} {v : Value} {s : Po}
end
end Go.Proofs.Ytkpagkopfdblgaa
