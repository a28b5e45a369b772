/- The law StackStale, walked. -/
import Derived.Test.YtcohhfndaogikaaStackAl
import Derived.Test.YtcohhfndaogikaaStackTab
import Derived.Test.YtcohhfndaogikaaSame
import Derived.Test.YtcohhfndaogikaaAppI
import Derived.LoopTactic
import Derived.Deep.RegionHeld3
import Derived.Deep.DrawnRows
import Derived.Deep.QuietTactic
import Derived.BigQuiet
namespace Go.Proofs.Ytcohhfndaogikaa
set_option linter.unusedVariables false
set_option linter.unusedSimpArgs false
open Go Go.RowKit
set_option maxRecDepth 100000
attribute [local go_sem ↓] Go.wp_at_zero Go.wp_at_succ
set_option maxHeartbeats 2000000

theorem has_c (v : Value) (zs : List Int) (z : Int) (w : World) (h : Reads .i64 w v zs) (hl : zs.length ≤ 1000000) :
    Calls Try.prog 51 #[v, .int .i64 z] w fun e w' => e = .returned (.bool (decide (z ∈ zs))) ∧ w = w' := by
  obtain ⟨ad, cap, rfl, hr⟩ := h
  have HR := Lib.hid hr
  clear hr
  go_enter Try.func51, Try.ntmps51
  go_wp2
  go_loop [5] (fun i => ∃ k : Nat, k ≤ zs.length ∧ i = .int .i64 k ∧ Hid (∀ j, j < k → zs[j]? ≠ some z)) (fun i => zs.length - (intOf i).toNat)
  case atStart => exact ⟨0, by omega, rfl, Lib.hid (fun j hj => by omega)⟩
  case round =>
    obtain ⟨k, hk, rfl, hno⟩ := hrel
    by_cases hlt : k < zs.length
    · obtain ⟨rb, off, rfl, hb, hc⟩ := HR.out (by rintro rfl; simp at hlt)
      have c1 := hc k zs[k] (List.getElem?_eq_getElem hlt)
      clear hc
      obtain ⟨y, hy⟩ : ∃ y, zs[k] = y := ⟨_, rfl⟩
      have HY := Lib.hid hy
      rw [hy] at c1
      clear hy
      by_cases hz : y = z
      · have q : (y == z) = true := by simp [hz]
        have HZ := Lib.hid hz
        clear hz
        go_wp2
        go_ret
        have hm : decide (z ∈ zs) = true := decide_eq_true (by rw [← HZ.out, ← HY.out]; exact List.getElem_mem hlt)
        exact ⟨by rw [hm]; rfl, rfl⟩
      · have q : (y == z) = false := by simp [hz]
        have HZ := Lib.hid hz
        clear hz
        go_wp2
        go_round
        case rel =>
          refine ⟨k + 1, by omega, by go_num, Lib.hid (fun j hj => ?_)⟩
          rcases Nat.lt_or_ge j k with h1 | h1
          · exact hno.out j h1
          · obtain rfl : j = k := by omega
            rw [List.getElem?_eq_getElem hlt, HY.out]
            intro e
            exact HZ.out (by cases e; rfl)
        case measure => simp [intOf]; omega
    · obtain rfl : k = zs.length := by omega
      have hm : decide (z ∈ zs) = false := decide_eq_false (fun hm => by
        obtain ⟨j, hj, e⟩ := List.mem_iff_getElem.1 hm
        exact hno.out j hj (by rw [List.getElem?_eq_getElem hj, e]))
      have HM := Lib.hid hm
      clear hm
      go_wp2
      go_ret
      exact ⟨by rw [HM.out]; rfl, rfl⟩
theorem has_no (v : Value) (zs : List Int) (z : Int) (w : World) (h : Reads .i64 w v zs) (hl : zs.length ≤ 1000000) (hz : z ∉ zs) :
    Calls Try.prog 51 #[v, .int .i64 z] w fun e w' => e = .returned (.bool false) ∧ w' = w :=
  (has_c v zs z w h hl).mono fun e w' ⟨p, q⟩ => ⟨by rw [p, decide_eq_false hz], q.symm⟩
section
variable {hd lk n N T : Nat} {l L : List Int}
theorem pop_seen (h : StRep hd lk n N l T L) (h2 : 2 ≤ L.length) : poRun hd lk n 2 (l, po0 1) = (l, ⟨2, 2, 1, L.getD 1 (-1), l.getD hd 0, L.take 1⟩) := by
  obtain ⟨under, i1⟩ := pop_links (most := 1) (c0 := 0) (u0 := 0) (w0 := 0) (g0 := []) h (by rintro rfl; simp at h2) (by decide) 0 (by omega) (by decide)
  have e : poRun hd lk n 2 (l, po0 1) = (poMem hd (poRun hd lk n 1 (l, po0 1)).1 (poRun hd lk n 1 (l, po0 1)).2, poStep hd lk n (poRun hd lk n 1 (l, po0 1)).1 (poRun hd lk n 1 (l, po0 1)).2) := rfl
  rw [e, i1]
  have hlen : (L.take (0 + 1)).length = 1 := by rw [List.length_take]; omega
  have el : (L.take (0 + 1)).getD ((L.take (0 + 1)).length - 1) 0 = L.getD 0 0 := by
    rw [hlen, List.getD_eq_getElem?_getD, List.getElem?_take_of_lt (by omega), ← List.getD_eq_getElem?_getD]
  have eb : poBelow lk n l ⟨1, 0 + ((0 : Nat) + 1), 1, under, l.getD hd 0, L.take (0 + 1)⟩ = L.getD (0 + 1) (-1) := by
    unfold poBelow
    dsimp only
    rw [el]
    exact h.lnk.below 0 (by omega)
  have es : poStep hd lk n l ⟨1, 0 + ((0 : Nat) + 1), 1, under, l.getD hd 0, L.take (0 + 1)⟩ = ⟨2, 0 + ((0 : Nat) + 1) + 1, 1, L.getD (0 + 1) (-1), l.getD hd 0, L.take (0 + 1)⟩ := by
    show poLink lk n l _ = _
    unfold poLink
    rw [eb]
    dsimp only
    rw [hlen, if_neg (by rintro ⟨_, h2⟩; simp at h2)]
  dsimp only
  rw [es]
  rfl
theorem poRun_stay {K : Nat} {p : List Int × Po} (h : (poRun hd lk n K p).2.ph = 3) : ∀ j : Nat, poRun hd lk n (K + j) p = poRun hd lk n K p
  | 0 => rfl
  | j + 1 => by
    have ih := poRun_stay h j
    have e := poRun_stop (k := K + j) (p := p) (hd := hd) (lk := lk) (n := n) (by rw [ih]; exact h)
    rw [← Nat.add_assoc, e, ih]
end
theorem PoRep.updmb {w w' : World} {B g S m b N : Nat} {v : Value} {s : Po} {l : List Int} {cc : Int} {x : Acc} (h : PoRep w B g S v s) (hu : Upd [m, b] w w') (M : Mem w m b N l cc x) : PoRep w' B g S v s :=
  ⟨h.has.upd hu (by simp only [List.mem_cons, List.not_mem_nil, or_false, not_or]; exact ⟨h.has.ne M.hg (by decide), h.has.ne M.hb (by decide)⟩),
    h.row.upd hu (fun y hy => by simp only [List.mem_cons, List.not_mem_nil, or_false, not_or]; exact ⟨h.row.ne M.hg (by decide) y hy, h.row.ne M.hb (by decide) y hy⟩)⟩
end Go.Proofs.Ytcohhfndaogikaa
