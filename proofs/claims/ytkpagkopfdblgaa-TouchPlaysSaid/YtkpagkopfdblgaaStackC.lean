/- The makers of Push and Pop, Got, walked. -/
import Derived.Test.YtkpagkopfdblgaaStackM
namespace Go.Proofs.Ytkpagkopfdblgaa
set_option linter.unusedVariables false
set_option linter.unusedSimpArgs false
open Go Go.RowKit
set_option maxRecDepth 100000
attribute [local go_sem ↓] Go.wp_at_zero Go.wp_at_succ
set_option maxHeartbeats 1000000

theorem Row.reads {B : Nat} {w : World} {v : Value} {zs : List Int} (h : Row B 3 w v (ivals zs)) : Reads .i64 w v zs := by
  obtain ⟨a, cap, rfl, hr⟩ := h.form
  refine ⟨a, cap, by simp, fun hz => ?_⟩
  obtain ⟨b, rfl, hB, hb, hc⟩ := hr (by simpa using hz)
  exact ⟨b, 0, rfl, hb, fun i z hi => by rw [Nat.zero_add]; exact hc i _ (by simp [hi])⟩
section
variable {w : World} {S m b N hd lk n B : Nat} {l : List Int} {cc : Int} {x : Acc} {g : Nat} {v : Value} {s : Po} {H K : Int}
theorem reads_take {a : Option Addr} {cap i : Nat} {zs : List Int} (h : Reads .i64 w (.slice a zs.length cap) zs) (hi : i ≤ zs.length) : Reads .i64 w (.slice a i cap) (zs.take i) := by
  obtain ⟨a', cap', hv, hr⟩ := h
  cases hv
  refine ⟨a, cap, by simp [Nat.min_eq_left hi], fun hz => ?_⟩
  obtain ⟨b, off, ha, hb, hc⟩ := hr (by rintro rfl; simp at hz)
  refine ⟨b, off, ha, hb, fun j z hj => ?_⟩
  rw [List.getElem?_take] at hj
  split at hj
  · exact hc j z hj
  · cases hj
/-- What Push says of its items: they are all there, each once. -/
def itemsB (n : Nat) (zs : List Int) : Prop := (∀ z ∈ zs, 0 ≤ z ∧ z < n) ∧ zs.Nodup
/-- What comes next of a Push of so many. -/
def puPh (k : Nat) : Nat := if k = 0 then 4 else if k = 1 then 1 else 0
end
end Go.Proofs.Ytkpagkopfdblgaa
