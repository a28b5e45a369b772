/- once, walked; appends inside a drawn region. -/
import Derived.Test.YtcohhfndaogikaaStackTab
import Derived.Test.YtcohhfndaogikaaAppI
import Derived.LoopTactic
namespace Go.Proofs.Ytcohhfndaogikaa
set_option linter.unusedVariables false
set_option linter.unusedSimpArgs false
open Go Go.RowKit
set_option maxRecDepth 100000
set_option maxHeartbeats 1000000

theorem flags_congr {n : Nat} {L M : List Int} (h : ∀ z, z ∈ L ↔ z ∈ M) : flags n L = flags n M := by
  unfold flags
  congr 1
  refine List.map_congr_left fun z _ => ?_
  rw [decide_eq_decide.2 (h z)]
theorem once_c (v : Value) (L : List Int) (n : Nat) (w : World) (h : Reads .i64 w v L) (hp : L.Perm (baseL n)) (hn : n ≤ 100000) :
    Calls Try.prog 58 #[v, .int .i64 n] w fun e w' => e = .returned (.bool true) ∧ Keeps w w' := by
  obtain ⟨aa, ca, rfl, ra⟩ := h
  have RA := Lib.hid ra
  have hl : L.length = n := by rw [hp.length_eq, baseL_len]
  have hnd : L.Nodup := hp.nodup_iff.2 (baseL_nodup n)
  have hb : ∀ z ∈ L, 0 ≤ z ∧ z < n := fun z hz => baseL_mem.1 (hp.mem_iff.1 hz)
  have HND := Lib.hid hnd
  have HB := Lib.hid hb
  have hmk := fun w => make_bool (n : Int) n rfl hn w
  clear ra hp hnd hb
  subst hl
  go_enter Try.func58, Try.ntmps58
  go_wp2
  go_loopw [6] (fun iv wr => ∃ i : Nat, i ≤ L.length ∧ iv = .int .i64 i ∧ Has wr w.heap.size (flags L.length (L.take i)) 4 ∧ Keeps w wr) (fun iv _ => L.length - (intOf iv).toNat)
  case atStart =>
    exact ⟨0, by omega, rfl, by simpa using Has.new _ _ _, (Keeps.refl w).alloc _⟩
  case round =>
    obtain ⟨i, hi, rfl, HF, K0⟩ := hrel
    by_cases hlt : i < L.length
    · obtain ⟨b, off, rfl, hab, hc⟩ := RA.out (by rintro rfl; simp at hlt)
      have c1 := hc i L[i] (List.getElem?_eq_getElem hlt)
      rw [← K0.cell hab] at c1
      have hz := HB.out _ (List.getElem_mem hlt)
      have hno : ¬ L[i] ∈ L.take i := by
        intro hm
        have h := HND.out
        rw [← List.take_append_drop i L, List.nodup_append] at h
        exact h.2.2 _ hm _ (by rw [List.drop_eq_getElem_cons hlt]; exact List.mem_cons_self ..) rfl
      have HS : Hid (flags L.length (L[i] :: L.take i) = flags L.length (L.take (i + 1))) := Lib.hid (flags_congr fun z => by rw [← List.take_append_getElem hlt]; simp only [List.mem_append, List.mem_cons, List.not_mem_nil, or_false]; exact or_comm)
      clear hc
      generalize L[i] = z at *
      obtain ⟨r, rfl⟩ := Int.eq_ofNat_of_zero_le hz.1
      have hr4 : r < L.length := by omega
      have hr5 : (r : Int) < L.length := by omega
      have hr0 : ¬ (r : Int) < 0 := by omega
      have hr6 : ¬ (L.length : Int) ≤ r := by omega
      have hlt' : (i : Int) < L.length := by omega
      have fu := HF.frozen r
      have cu := HF.cellv (flags_at hr4)
      rw [decide_eq_false hno] at cu
      have HNO := Lib.hid hno
      clear hno hz
      go_wp2
      go_roundw
      case rel => exact ⟨i + 1, by omega, by go_num, (HF.set r (.bool true)).congr ((flags_set hr4).trans HS.out), K0.setCell (Nat.le_refl _) _⟩
      case measure => simp [intOf]; omega
    · obtain rfl : i = L.length := by omega
      go_wp2
      go_ret
      exact ⟨rfl, K0⟩
section
variable {B : Nat} {w : World} {v : Value} {xs ys : List Int}
/-- append of ints as a step of a region that draws. -/
theorem step_append_ints {ops : Array Oper} {o : Oper} {a : Act} {K : Act → World → Prop} {Q : Exit → Act → World → Prop} {E : Prop} (hgd : o.guard = none) (s x : Operand)
    (ho : o.op = .call { callee := .builtin .append, args := #[s, x], argTypes := #[33, 33] })
    (y : Value) (hs : a.eval s = v) (hx : a.eval x = y) (hown : Row B 3 w v (ivals xs)) (hsrc : Src w y ys) (hlen : xs.length + ys.length ≤ 1000000) (hB : B ≤ w.heap.size)
    (h : ∀ v' w', Row B 3 w' v' (ivals (xs ++ ys)) → Upd (ownB v) w w' → (∀ z ∈ ownB v', z ∈ ownB v ∨ z = w.heap.size) → K (a.put o.dst v') w') :
    if Region.wanted o (yielded ops a.tmps) = true then Oper.wp Try.prog o a w K Q else E := by
  obtain ⟨i0, hi, hz0, hz1, hz2⟩ := info_parts info_int
  have hw : Region.wanted o (yielded ops a.tmps) = true := by simp [Region.wanted, hgd]
  rw [if_pos hw]
  rcases hsrc with ⟨rfl, rfl⟩ | ⟨ad, c, rfl, hc⟩
  · have hrun := run_append_owned_none (P := Try.prog) (w := w) B 33 o.type 3 i0 1 Try.underlying33 hi v _ _ hown
    unfold Oper.wp
    simp [execOp, ho, resolve, invoke, builtin, hs, hx, hrun, Result.andThen]
    exact h v w (by rw [List.append_nil]; exact hown) (Upd.refl _ _) (fun z hz => .inl hz)
  · have hnews : ∀ (j : Nat) u, (ivals ys)[j]? = some u → w.cell? (ad.add j) = some u := fun j u hj => by
      have hj2 : j < ys.length := by have := (List.getElem?_eq_some_iff.1 hj).1; simpa using this
      simp only [ivals, List.getElem?_map, List.getElem?_eq_getElem hj2, Option.map_some, Option.some.injEq] at hj
      rw [hc j ys[j] (List.getElem?_eq_getElem hj2), hj]
    obtain ⟨v', w', hr, h1, h2, _, h4⟩ := run_append_own_at (P := Try.prog) w B 33 o.type 3 i0 _ 1 8 Try.underlying33 hi hz0 hz1 hz2 rfl (by decide) v _ _ hown ad ys.length c (ivals ys) (by simp) hnews (ivals_one ys) (by simp only [ivals, List.length_map]; unfold maxLen; omega) (by simp only [ivals, List.length_map]; omega) hB
    unfold Oper.wp execOp
    simp only [ho, resolve, invoke, builtin, Sem.run_bind, Sem.run_pure, Result.andThen_ok, List.map_toArray, List.map_cons, List.map_nil, hs, hx, hr]
    refine h v' w' ?_ (Upd.grown h2) (fun z hz => ?_)
    · unfold Row
      have e : ivals (xs ++ ys) = ivals xs ++ ivals ys := by simp [ivals]
      rw [e, List.length_append, show (ivals ys).length = ys.length by simp]
      exact h1
    · rcases h4 with h4 | h4
      · exact .inl (by unfold ownB at hz ⊢; rw [h4] at hz; exact hz)
      · right; unfold ownB at hz; rw [h4] at hz; simpa using hz
theorem CutI.src {w : World} {v : Value} {L : List Int} (h : CutI w v L) (hne : L ≠ []) : Src w v L := by
  obtain ⟨a, cap, rfl, _, h⟩ := h
  obtain ⟨g, off, cur, rfl, hg, hc⟩ := h hne
  exact .inr ⟨⟨g, off, none⟩, cap, rfl, fun j z hj => by rw [addr_add]; exact (hg.cell _).trans (hc j z hj)⟩
theorem CutI.srcDrop {w : World} {L : List Int} {g off cap k c n : Nat} (h : CutI w (.slice (some ⟨g, off, none⟩) L.length cap) L) (hk : k ≤ L.length) (ad : Addr) (had : k < L.length → ad = ⟨g, off + k, none⟩) (hn : n = L.length - k) : Src w (.slice (some ad) n c) (L.drop k) := by
  refine .inr ⟨ad, c, by rw [hn, List.length_drop], fun j z hj => ?_⟩
  rw [List.getElem?_drop] at hj
  have hlt : k + j < L.length := (List.getElem?_eq_some_iff.1 hj).1
  obtain ⟨a', cap', hv, _, h⟩ := h
  cases hv
  obtain ⟨g', off', cur, ha, hg, hc⟩ := h (by rintro rfl; simp at hlt)
  cases ha
  rw [had (by omega), addr_add, Nat.add_assoc]
  exact (hg.cell _).trans (hc _ z hj)
end
end Go.Proofs.Ytcohhfndaogikaa
