/- One by himself: alone and takes, walked. -/
import Derived.Test.YtcohhfndaogikaaStackA
import Derived.Test.YtcohhfndaogikaaStackG
import Derived.LoopTactic
namespace Go.Proofs.Ytcohhfndaogikaa
set_option linter.unusedVariables false
set_option linter.unusedSimpArgs false
open Go Go.RowKit
set_option maxRecDepth 100000
set_option maxHeartbeats 2000000

theorem Upd.fresh {S T : List Nat} {a b c : World} (h : Upd S a b) (k : Upd T b c) (hT : ∀ x ∈ T, x ∈ S ∨ a.heap.size ≤ x) : Upd S a c :=
  ⟨k.os.trans h.os, k.tape.trans h.tape, k.output.trans h.output, Nat.le_trans h.size k.size, fun i hi hn => (k.block i (Nat.lt_of_lt_of_le hi h.size) (fun hx => by
    rcases hT i hx with h1 | h1
    · exact hn h1
    · omega)).trans (h.block i hi hn)⟩
theorem in_pu {A g m b : Nat} (h : A ≤ g) : ∀ y ∈ [g, m, b], y ∈ [m, b] ∨ A ≤ y := by
  intro y hy
  simp only [List.mem_cons, List.not_mem_nil, or_false] at hy ⊢
  rcases hy with rfl | rfl | rfl
  · exact .inr h
  · exact .inl (.inl rfl)
  · exact .inl (.inr rfl)
theorem in_po {A g m b : Nat} {v : Value} (h : A ≤ g) (hv : ∀ y ∈ ownB v, A ≤ y) : ∀ y ∈ g :: m :: b :: ownB v, y ∈ [m, b] ∨ A ≤ y := by
  intro y hy
  simp only [List.mem_cons] at hy
  rcases hy with rfl | rfl | rfl | hy
  · exact .inr h
  · exact .inl (by simp)
  · exact .inl (by simp)
  · exact .inr (hv y hy)
theorem puRun_stop {hd lk n k : Nat} {p : List Int × Pu} (h : (puRun hd lk n k p).2.ph = 4) : puRun hd lk n (k + 1) p = puRun hd lk n k p := by
  show (puMem hd lk n (puRun hd lk n k p).1 (puRun hd lk n k p).2, puStep hd (puRun hd lk n k p).1 (puRun hd lk n k p).2) = _
  generalize puRun hd lk n k p = r at *
  obtain ⟨l, ph, c, zs, i, was⟩ := r
  dsimp only at h
  subst h
  rfl
theorem poRun_stop {hd lk n k : Nat} {p : List Int × Po} (h : (poRun hd lk n k p).2.ph = 3) : poRun hd lk n (k + 1) p = poRun hd lk n k p := by
  show (poMem hd (poRun hd lk n k p).1 (poRun hd lk n k p).2, poStep hd lk n (poRun hd lk n k p).1 (poRun hd lk n k p).2) = _
  generalize poRun hd lk n k p = r at *
  obtain ⟨l, ph, c, most, under, was, got⟩ := r
  dsimp only at h
  subst h
  rfl
section
variable {w : World} {S m b N hd lk n : Nat} {l zs : List Int} {cc : Int} {x : Acc}
theorem alone_run (a : Option Addr) (cap K : Nat) (hr : Reads .i64 w (.slice a zs.length cap) zs) (hcap : zs.length ≤ cap) (hS : Has w S (stackOf m hd lk n) 138) (M : Mem w m b N l cc x) (L : StOk hd lk n N l) (hz : itemsB n zs) (hne : zs ≠ []) (hl : zs.length ≤ 400) (hK : K ≤ 400)
    (hdk : ∀ k : Nat, k < K → decide ((puRun hd lk n k (l, pu0 zs)).2.ph < 4) = true) (hph : (puRun hd lk n K (l, pu0 zs)).2.ph = 4) (hc : (puRun hd lk n K (l, pu0 zs)).2.c = K) (h0 : 0 ≤ cc) (hcc : cc ≤ 4000000000000) :
    Calls Try.prog 43 #[.pointer (some ⟨S, 0, none⟩), .slice a zs.length cap] w fun e w' => e = .returned (.int .i64 K) ∧ Upd [m, b] w w' ∧ Has w' S (stackOf m hd lk n) 138 ∧ ∃ x', Mem w' m b N (puRun hd lk n K (l, pu0 zs)).1 (cc + K) x' := by
  have HR := Lib.hid hr
  have HDk := Lib.hid hdk
  have HP := Lib.hid hph
  have HC := Lib.hid hc
  have HI := Lib.hid (pu0_inv hne hz (by omega))
  have HL := Lib.hid L
  have HZ := Lib.hid hz
  clear hr hdk hph hc hz
  go_enter Try.func43, Try.ntmps43
  go_wp2_with (go_at_call 41; refine (mkPush_c _ _ _ HR.out hcap hS HZ.out (by omega)).mono ?_; rintro e w' ⟨g, v, rfl, hk, hg, HA⟩; have HS := hS.keeps hk; have MM := M.keeps hk; have KU : Upd [m, b] w _ := Upd.of_keeps hk)
  clear hS M
  have hS := HS
  go_loopw [7] (fun i wr => ∃ (k : Nat), k ≤ K ∧ i = .int .i64 k ∧ PuRep wr w.heap.size g S v (puRun hd lk n k (l, pu0 zs)).2 ∧ Has wr S (stackOf m hd lk n) 138 ∧ (∃ x, Mem wr m b N (puRun hd lk n k (l, pu0 zs)).1 (cc + (puRun hd lk n k (l, pu0 zs)).2.c) x) ∧ Upd [m, b] w wr) (fun i _ => K - (intOf i).toNat)
  case atStart => exact ⟨0, by omega, rfl, HA, HS, ⟨_, by show Mem _ _ _ _ l (cc + 0) _; rw [Int.add_zero]; exact MM⟩, KU⟩
  case round =>
    clear HS MM KU HA hS
    obtain ⟨k, hkK, rfl, HA, HS, ⟨x, M⟩, KU⟩ := hrel
    by_cases hlt : k < K
    · have HO : Hid (decide ((puRun hd lk n k (l, pu0 zs)).2.ph < 4) = true) := Lib.hid (HDk.out k hlt)
      have hk5 : (k : Int) + 1 ≤ 500 := by omega
      go_wp2_with (go_at_call 56; refine (puRunStep_c (cc0 := cc) (C := 0) true HO.out HA HS M HL.out HI.out (by omega) (by omega)).mono ?_; rintro e w' ⟨rfl, hu, HA, HS, x2, M⟩; have KU := KU.fresh hu (in_pu hg))
      go_roundw
      case rel => exact ⟨k + 1, by omega, by go_num, HA, HS, ⟨_, M⟩, KU⟩
      case measure => simp [intOf]; omega
    · obtain rfl : k = K := by omega
      have HO : Hid (decide ((puRun hd lk n k (l, pu0 zs)).2.ph < 4) = false) := Lib.hid (by rw [HP.out]; rfl)
      go_wp2_with (go_at_call 56; refine (puRunStep_c (cc0 := cc) (C := 0) false HO.out HA HS M HL.out HI.out (by omega) (by omega)).mono ?_; rintro e w' ⟨rfl, hu, HA, HS, x2, M⟩; rw [puRun_stop HP.out, HC.out] at M; have KU := KU.fresh hu (in_pu hg))
      go_ret
      exact ⟨rfl, KU, HS, _, M⟩
theorem alone_nil (a : Option Addr) (cap : Nat) (hS : Has w S (stackOf m hd lk n) 138) :
    Calls Try.prog 43 #[.pointer (some ⟨S, 0, none⟩), .slice none 0 0] w fun e w' => e = .returned (.int .i64 0) ∧ Keeps w w' := by
  go_enter Try.func43, Try.ntmps43
  go_wp2_with (go_at_call 41; refine (mkPush_c [] none 0 ⟨none, 0, rfl, fun h => by simp at h⟩ (Nat.le_refl _) hS ⟨by simp, by simp⟩ (by simp)).mono ?_; rintro e w' ⟨g, v, rfl, hk, hg, HA⟩)
  go_loopw [7] (fun i wr => i = .int .i64 (0 : Nat) ∧ PuRep wr w.heap.size g S v ⟨puPh 0, 0, [], 0, 0⟩ ∧ Keeps w wr) (fun i _ => 0)
  case atStart => exact ⟨rfl, HA, hk⟩
  case round =>
    obtain ⟨rfl, HA, K0⟩ := hrel
    go_wp2_with (go_at_call 56; refine (puStep_of (mstep_nil HA.has)).mono ?_; rintro e w' ⟨rfl, rfl⟩)
    go_ret
    exact ⟨rfl, K0⟩
theorem takes_run (most q : Int) (K : Nat) (hq : (8 < most ∧ q = 8) ∨ (1 ≤ most ∧ most ≤ 8 ∧ q = most) ∨ (most < 1 ∧ q = 1)) (hS : Has w S (stackOf m hd lk n) 138) (M : Mem w m b N l cc x) (L : StOk hd lk n N l) (hK : K ≤ 400)
    (hdk : ∀ k : Nat, k < K → decide ((poRun hd lk n k (l, po0 q)).2.ph < 3) = true) (hph : (poRun hd lk n K (l, po0 q)).2.ph = 3) (hc : (poRun hd lk n K (l, po0 q)).2.c = K) (h0 : 0 ≤ cc) (hcc : cc ≤ 4000000000000) :
    Calls Try.prog 44 #[.pointer (some ⟨S, 0, none⟩), .int .i64 most] w fun e w' => ∃ v, e = .returned (.tuple #[v, .int .i64 K]) ∧ Upd [m, b] w w' ∧ Has w' S (stackOf m hd lk n) 138 ∧ (∃ x', Mem w' m b N (poRun hd lk n K (l, po0 q)).1 (cc + K) x') ∧ Row w.heap.size 3 w' v (ivals (poRun hd lk n K (l, po0 q)).2.got) := by
  have HDk := Lib.hid hdk
  have HP := Lib.hid hph
  have HC := Lib.hid hc
  have HI := Lib.hid (po0_inv n q)
  have HL := Lib.hid L
  have HQ := Lib.hid hq
  clear hdk hph hc hq
  go_enter Try.func44, Try.ntmps44
  go_wp2_with (go_at_call 47; refine (mkPop_c (B := w.heap.size) most q HQ.out).mono ?_; rintro e w' ⟨g, rfl, hk, hg, HA⟩; have HS := hS.keeps hk; have MM := M.keeps hk; have KU : Upd [m, b] w _ := Upd.of_keeps hk)
  clear hS M
  have hS := HS
  go_loopw [7] (fun i wr => ∃ (k : Nat) (v : Value), k ≤ K ∧ i = .int .i64 k ∧ PoRep wr w.heap.size g S v (poRun hd lk n k (l, po0 q)).2 ∧ Has wr S (stackOf m hd lk n) 138 ∧ (∃ x, Mem wr m b N (poRun hd lk n k (l, po0 q)).1 (cc + (poRun hd lk n k (l, po0 q)).2.c) x) ∧ Upd [m, b] w wr) (fun i _ => K - (intOf i).toNat)
  case atStart => exact ⟨0, _, by omega, rfl, HA, HS, ⟨_, by show Mem _ _ _ _ l (cc + 0) _; rw [Int.add_zero]; exact MM⟩, KU⟩
  case round =>
    clear HS MM KU HA hS
    obtain ⟨k, v, hkK, rfl, HA, HS, ⟨x, M⟩, KU⟩ := hrel
    have hro := HA.row.own
    have szr := KU.size
    by_cases hlt : k < K
    · have HO : Hid (decide ((poRun hd lk n k (l, po0 q)).2.ph < 3) = true) := Lib.hid (HDk.out k hlt)
      have hk5 : (k : Int) + 1 ≤ 500 := by omega
      go_wp2_with (go_at_call 48; refine (poRunStep_c (cc0 := cc) (C := 0) true HO.out HA HS M HL.out HI.out (by omega) szr (by omega)).mono ?_; rintro e w' ⟨v2, rfl, hu, HA, HS, ⟨x2, M⟩, hv2⟩; have KU := KU.fresh hu (in_po hg (fun y hy => (hro y hy).1)))
      go_roundw
      case rel => exact ⟨k + 1, _, by omega, by go_num, HA, HS, ⟨_, M⟩, KU⟩
      case measure => simp [intOf]; omega
    · obtain rfl : k = K := by omega
      have HO : Hid (decide ((poRun hd lk n k (l, po0 q)).2.ph < 3) = false) := Lib.hid (by rw [HP.out]; rfl)
      have hI := poRun_inv (p := (l, po0 q)) HL.out HI.out k
      have hgl := hI.2.len
      have hgc := hI.2.c1
      go_wp2_with (first
        | (go_at_call 48; refine (poRunStep_c (cc0 := cc) (C := 0) false HO.out HA HS M HL.out HI.out (by omega) szr (by omega)).mono ?_; rintro e w' ⟨v2, rfl, hu, HA, HS, ⟨x2, M⟩, hv2⟩; rw [poRun_stop HP.out] at M HA; rw [HC.out] at M; have KU := KU.fresh hu (in_po hg (fun y hy => (hro y hy).1)); have szr := KU.size)
        | (go_at_call 50; refine (got_c HA (by rw [HP.out]; exact Nat.le_refl _) (by omega)).mono ?_; rintro e w' ⟨v3, rfl, hk3, R3⟩; have HS := HS.keeps hk3; have M := M.keeps hk3; have KU := KU.trans (Upd.of_keeps hk3)))
      go_ret2
      exact ⟨_, rfl, KU, HS, ⟨_, M⟩, R3.mono szr⟩
variable {T : Nat} {L : List Int}
theorem alone_c (a : Option Addr) (cap K : Nat) (hr : Reads .i64 w (.slice a zs.length cap) zs) (hcap : zs.length ≤ cap) (hS : Has w S (stackOf m hd lk n) 138) (M : Mem w m b N l cc x) (R : StRep hd lk n N l T L) (hz : itemsB n zs) (hne : zs ≠ []) (ha : ∀ z ∈ zs, z ∉ L)
    (hT : T ≤ 4000000) (hl : zs.length ≤ 390) (hK : K = zs.length + 2) (h0 : 0 ≤ cc) (hcc : cc ≤ 4000000000000) :
    Calls Try.prog 43 #[.pointer (some ⟨S, 0, none⟩), .slice a zs.length cap] w fun e w' => e = .returned (.int .i64 K) ∧ Upd [m, b] w w' ∧ Has w' S (stackOf m hd lk n) 138 ∧ ∃ l' x', Mem w' m b N l' (cc + K) x' ∧ StRep hd lk n N l' (T + 1) (zs ++ L) := by
  subst hK
  obtain ⟨p1, p2, p3, p4⟩ := push_alone R hz hne ha (by omega)
  refine (alone_run a cap (zs.length + 2) hr hcap hS M R.ok hz hne (by omega) (by omega) p1 p2 (by rw [p3]; omega) h0 hcc).mono ?_
  rintro e w' ⟨rfl, hu, HS, x', M'⟩
  exact ⟨rfl, hu, HS, _, x', M', p4⟩
theorem takes_c (most q : Int) (c : Nat) (K : Int) (hK : K = (c : Int) + 2) (hq : (8 < most ∧ q = 8) ∨ (1 ≤ most ∧ most ≤ 8 ∧ q = most) ∨ (most < 1 ∧ q = 1)) (hS : Has w S (stackOf m hd lk n) 138) (M : Mem w m b N l cc x) (R : StRep hd lk n N l T L) (hne : L ≠ []) (hc : c ≤ L.length) (hcm : (c : Int) ≤ q) (hfull : c = L.length ∨ (c : Int) = q)
    (hT : T ≤ 4000000) (h0 : 0 ≤ cc) (hcc : cc ≤ 4000000000000) :
    Calls Try.prog 44 #[.pointer (some ⟨S, 0, none⟩), .int .i64 most] w fun e w' => ∃ v, e = .returned (.tuple #[v, .int .i64 K]) ∧ Upd [m, b] w w' ∧ Has w' S (stackOf m hd lk n) 138 ∧ (∃ l' x', Mem w' m b N l' (cc + K) x' ∧ StRep hd lk n N l' (T + 1) (L.drop c)) ∧ Row w.heap.size 3 w' v (ivals (L.take c)) := by
  have eK : K = ((c + 2 : Nat) : Int) := by omega
  subst eK
  have q1 : 1 ≤ q := by omega
  have q8 : q ≤ 8 := by omega
  obtain ⟨p1, l', under, was, p2, p3⟩ := pop_some R hne q1 c hc hcm hfull (by omega)
  refine (takes_run most q (c + 2) hq hS M R.ok (by omega) p1 (by rw [p2]) (by rw [p2]; dsimp only; omega) h0 hcc).mono ?_
  rintro e w' ⟨v, rfl, hu, HS, ⟨x', M'⟩, hR⟩
  rw [p2] at M' hR
  exact ⟨v, rfl, hu, HS, ⟨l', x', M', p3⟩, hR⟩
theorem takes_none (most q : Int) (hq : (8 < most ∧ q = 8) ∨ (1 ≤ most ∧ most ≤ 8 ∧ q = most) ∨ (most < 1 ∧ q = 1)) (hS : Has w S (stackOf m hd lk n) 138) (M : Mem w m b N l cc x) (R : StRep hd lk n N l T []) (h0 : 0 ≤ cc) (hcc : cc ≤ 4000000000000) :
    Calls Try.prog 44 #[.pointer (some ⟨S, 0, none⟩), .int .i64 most] w fun e w' => ∃ v, e = .returned (.tuple #[v, .int .i64 (1 : Nat)]) ∧ Upd [m, b] w w' ∧ Has w' S (stackOf m hd lk n) 138 ∧ (∃ x', Mem w' m b N l (cc + (1 : Nat)) x') ∧ Row w.heap.size 3 w' v (ivals []) := by
  have p := pop_none R q
  refine (takes_run most q 1 hq hS M R.ok (by omega) (fun k hk => by obtain rfl : k = 0 := (by omega); rfl) (by rw [p]) (by rw [p]; rfl) h0 hcc).mono ?_
  rintro e w' ⟨v, rfl, hu, HS, ⟨x', M'⟩, hR⟩
  rw [p] at M' hR
  exact ⟨v, rfl, hu, HS, ⟨x', M'⟩, hR⟩
end
end Go.Proofs.Ytcohhfndaogikaa
