/- The chapter's example (layer 11), walked. -/
import Derived.Test.YtaecapjicphdkaaGreatRootsJ
import Derived.Test.YtaecapjicphdkaaGreatRootsI
namespace Go.Proofs.YtaecapjicphdkaaGreat
set_option linter.unusedVariables false
set_option linter.unusedSimpArgs false
open Go Go.RowKit
set_option maxRecDepth 100000
set_option maxHeartbeats 2000000

section
variable {w : World} {R m bb S N B A0 : Nat} {l : List Int} {cc : Int} {x : Acc} {p k d sn cz b : Int} {y pg hd lk n ra : Nat} {cls : Int} {v : Value} {s : Cr}
/-- A Create that was begun in memory l, behind j accesses. -/
structure CrAt (w : World) (y pg R S m bb N : Nat) (cls : Int) (hd lk n ra : Nat) (l : List Int) (cc : Int) (A0 j : Nat) : Prop where
  ex : ∃ v x, CrRep w A0 y pg R S cls v (crRun hd lk n ra cls j (l, cr0)).2 ∧ Mem w m bb N (crRun hd lk n ra cls j (l, cr0)).1 (cc + (crRun hd lk n ra cls j (l, cr0)).2.c) x ∧ (∀ z ∈ ownB v, A0 ≤ z)
theorem CrRep.other {g : Nat} {cs : Array Value} {T : TypeId} (h : CrRep w B y pg R S cls v s) (M : Mem w m bb N l cc x) (hg : Has w g cs T) (t1 : T ≠ 140) (t2 : T ≠ 177) (t3 : T ≠ 103) (t4 : T ≠ 99) (t5 : T ≠ 3) : g ∉ y :: pg :: m :: bb :: ownB v := by
  simp only [List.mem_cons, not_or]
  exact ⟨hg.ne h.has t1, hg.ne h.pop.has t2, hg.ne M.hg t3, hg.ne M.hb t4, fun hm => h.pop.row.ne hg (Ne.symm t5) g hm rfl⟩
theorem crAt_start (hp : PoRep w A0 pg S (.slice none 0 0) ⟨0, 0, 1, 0, 0, []⟩) (hx : Has w y (createOf (bound 135 y) 0 R cls pg y (-1) 0 0 0 0 0 0) 140) (M : Mem w m bb N l cc x) :
    CrAt w y pg R S m bb N cls hd lk n ra l cc A0 0 :=
  ⟨.slice none 0 0, x, ⟨hx, hp⟩, by show Mem w m bb N l (cc + 0) x; rw [Int.add_zero]; exact M, by simp⟩
theorem crAt_step {j : Nat} (h : CrAt w y pg R S m bb N cls hd lk n ra l cc A0 j) (hR : Has w R (rootsOf m p k d sn cz b S) 109) (hS : Has w S (stackOf m hd lk n) 143) (L : StOk hd lk n N l) (A : RtAt p k d sn cz b ra n N) (hj : j ≤ 100000) (hA : A0 ≤ w.heap.size) (hy : A0 ≤ y) (hpg : A0 ≤ pg) (h0 : 0 ≤ cc) (hcc : cc ≤ 4000000000000000000) :
    Calls Tryz.prog 29 #[.pointer (some ⟨y, 0, none⟩)] w fun e w' => (∃ o, e = .returned (.bool o)) ∧ (∀ C : Nat, A0 ≤ w.heap.size → C ≤ A0 → C ≤ m → C ≤ bb → ∀ w0, Keeps w0 w → w0.heap.size ≤ C → Keeps w0 w') ∧ CrAt w' y pg R S m bb N cls hd lk n ra l cc A0 (j + 1) ∧ Has w' R (rootsOf m p k d sn cz b S) 109 ∧ Has w' S (stackOf m hd lk n) 143 ∧ w.heap.size ≤ w'.heap.size ∧
      (∀ (g : Nat) (cs : Array Value) (T : TypeId), Has w g cs T → T ≠ 140 → T ≠ 177 → T ≠ 103 → T ≠ 99 → T ≠ 3 → Has w' g cs T) := by
  obtain ⟨v, x, hr, M, hv⟩ := h.ex
  obtain ⟨okl, inv⟩ := crRun_inv (hd := hd) (lk := lk) (n := n) (N := N) (ra := ra) (cls := cls) (p := (l, cr0)) (C := 0) L (cr0_inv n) j
  have ic0 := inv.c0
  have ic1 := inv.c1
  refine (crStep_c hr hR hS M okl A (inv.ok (by omega)) hA (by omega)).mono ?_
  rintro e w' ⟨v', rfl, hu, hr', ⟨x', M'⟩, ho⟩
  have tr : ∀ (g : Nat) (cs : Array Value) (T : TypeId), Has w g cs T → T ≠ 140 → T ≠ 177 → T ≠ 103 → T ≠ 99 → T ≠ 3 → Has w' g cs T :=
    fun g cs T hg t1 t2 t3 t4 t5 => hg.upd hu (hr.other M hg t1 t2 t3 t4 t5)
  refine ⟨⟨_, rfl⟩, fun C hC hCA hCm hCb w0 hk hw0 => hk.upd hu (fun z hz => ?_), ⟨v', x', hr', ?_, fun z hz => ?_⟩, tr _ _ _ hR (by decide) (by decide) (by decide) (by decide) (by decide), tr _ _ _ hS (by decide) (by decide) (by decide) (by decide) (by decide), hu.size, tr⟩
  · simp only [List.mem_cons] at hz
    rcases hz with rfl | rfl | rfl | rfl | hz
    · omega
    · omega
    · omega
    · omega
    · have := hv z hz; omega
  · have e1 : (crRun hd lk n ra cls (j + 1) (l, cr0)).2.c = (crRun hd lk n ra cls j (l, cr0)).2.c + crCount (crRun hd lk n ra cls j (l, cr0)).2 := crStep_count _ _ _ _ _ _ _
    rw [e1, ← Int.add_assoc]
    exact M'
  · rcases ho z hz with h1 | h1
    · exact hv z h1
    · omega
end
/-- Memories of n slots. -/
theorem rtAt (n : Nat) (h1 : 1 ≤ n) (h2 : n ≤ 4) : RtAt 1 1 8 n 0 1 4 n (13 + 2 * n) :=
  ⟨fun i h0 h1' => by unfold crootI; rw [atI_t (mayB_rt h1 h2) h0 h1']; omega, by omega⟩
theorem rtL_ok (n : Nat) (h1 : 1 ≤ n) (h2 : n ≤ 4) : StRep 1 (4 + n) n (13 + 2 * n) (rtL n) 0 (baseL n) :=
  StRep.fill ⟨by simp, by omega, by omega, by omega, by omega, fun v hv => by rw [List.mem_replicate] at hv; omega⟩ (by omega) h1
theorem rtL_root (n : Nat) (h1 : 1 ≤ n) (i : Nat) (hi : i < n) : (rtL n).getD (4 + i) 0 = 0 := by
  have : (rtL n)[4 + i]? = some 0 := by
    unfold rtL
    rw [stFill_outR _ _ _ _ _ (by omega) (by omega) h1, List.getElem?_replicate_of_lt (by omega)]
  rw [List.getD_eq_getElem?_getD, this]; rfl
theorem rootsFirst_c (w : World) : Calls Tryz.prog 6 #[] w fun e w' => e = .returned (.bool true) ∧ Keeps w w' := by
  have HMd := Lib.hid (madeR_c 2 w (by omega) (by omega))
  have h2 : StRep 1 6 2 17 (rtL 2) 0 (0 :: [1]) := rtL_ok 2 (by omega) (by omega)
  have h0 : (rtL 2).getD 4 0 = 0 := rtL_root 2 (by omega) 0 (by omega)
  obtain ⟨pop, l', hrun, -, -, -⟩ := cr_some (cls := 0) (ra := 4) h2 (by omega) (by omega) (by omega)
  have hrun2 : crRun 1 6 2 4 0 5 (rtL 2, cr0) = (l'.set 4 (rootI (genN ((rtL 2).getD 4 0 / 4294967296)) 1 0 0), ⟨3, 5, 0, 3, genN ((rtL 2).getD 4 0 / 4294967296), 1, 0, 0, 0, pop⟩) := hrun
  rw [h0] at hrun2
  have HRun : Hid (crRun 1 6 2 4 0 5 (rtL 2, cr0) = (l'.set 4 (rootI 1 1 0 0), ⟨3, 5, 0, 3, 1, 1, 0, 0, 0, pop⟩)) := Lib.hid hrun2
  have HOk := Lib.hid h2.ok
  have HAt : Hid (RtAt 1 1 8 (2 : Nat) 0 1 4 2 17) := Lib.hid (rtAt 2 (by omega) (by omega))
  clear hrun hrun2 h0 h2
  go_enter Tryz.func6, Tryz.ntmps6
  go_wp2_with (first
    | (go_at_call 17; refine HMd.out.mono ?_; rintro e w' ⟨m, bb, R, S, W, g, gb, Pl, Sp, E, rfl, K0, ⟨hm, hb, hR0, hS0, -⟩, -, M, HR, HS, -, -, -⟩)
    | (go_at_call 28; refine (mkCreate_c (B := w.heap.size) _ HR).mono ?_; rintro e w' ⟨y, pg, rfl, hk, hy, hpg, hp, hx⟩; have hs1 := K0.size; have HR := HR.keeps hk; have HS := HS.keeps hk; have M := M.keeps hk; have K0 := K0.trans hk))
  have hA : w.heap.size ≤ w'.heap.size := K0.size
  have hy2 : w.heap.size ≤ y := by omega
  have hpg2 : w.heap.size ≤ pg := by omega
  have C := crAt_start (hd := 1) (lk := 6) (n := 2) (ra := 4) hp hx M
  clear hp hx M hk hy hpg hs1
  go_loopw [5] (fun i wr => ∃ q : Nat, q ≤ 5 ∧ i = .int .i64 q ∧ CrAt wr y pg R S m bb 17 0 1 6 2 4 (rtL 2) 0 w.heap.size q ∧ Has wr R (rootsOf m 1 1 8 (2 : Nat) 0 1 S) 109 ∧ Has wr S (stackOf m (1 : Nat) ((6 : Nat) : Int) (2 : Nat)) 143 ∧ Keeps w wr) (fun i _ => 5 - (intOf i).toNat)
  case atStart => exact ⟨0, by omega, rfl, C, HR, HS, K0⟩
  case round =>
    obtain ⟨q, hq, rfl, C, HR, HS, K0⟩ := hrel
    have hAr := K0.size
    by_cases hlt : q < 5
    · go_wp2_with (go_at_call 29; refine (crAt_step C HR HS HOk.out HAt.out (by omega) hAr hy2 hpg2 (by omega) (by omega)).mono ?_; rintro e w9 ⟨⟨o, rfl⟩, hkk, C, HR, HS, -, -⟩; have K0 := hkk w.heap.size hAr (Nat.le_refl _) hm hb w K0 (Nat.le_refl _))
      go_roundw
      case rel => exact ⟨q + 1, by omega, by go_num, C, HR, HS, K0⟩
      case measure => simp [intOf]; omega
    · obtain rfl : q = 5 := by omega
      obtain ⟨v, x, hr, M, -⟩ := C.ex
      rw [HRun.out] at hr M
      have hx := hr.has
      have HReg := Lib.hid (crRegion_c (o := none) (s2 := 0) (g2 := 1) (fun _ => ⟨rfl, rfl⟩) (fun h => absurd ⟨rfl, rfl⟩ h) hx)
      clear C hr
      go_wp2_with (first
        | (go_at_call 30; refine HReg.out.mono ?_; rintro e w9 ⟨rfl, j, rfl⟩)
        | (go_at_call 31; refine (crDone_c (o := none) (hx.keeps (by ((repeat' (first | (with_reducible exact Keeps.refl _) | (with_reducible assumption) | (with_reducible refine Keeps.drewN ?_ _) | (with_reducible refine Keeps.drew ?_) | (with_reducible refine Keeps.alloc ?_ _) | (with_reducible refine Keeps.setCell ?_ ?_ _) | (with_reducible refine Keeps.trans ?_ (After.keeps _)) | (with_reducible refine Keeps.trans ?_ (by with_reducible assumption)) | go_size)); (first | done | fail))))).mono ?_; rintro e w' ⟨rfl, rfl⟩)
        | (go_at_call 32; refine (crCode_c (hx.keeps (by ((repeat' (first | (with_reducible exact Keeps.refl _) | (with_reducible assumption) | (with_reducible refine Keeps.drewN ?_ _) | (with_reducible refine Keeps.drew ?_) | (with_reducible refine Keeps.alloc ?_ _) | (with_reducible refine Keeps.setCell ?_ ?_ _) | (with_reducible refine Keeps.trans ?_ (After.keeps _)) | (with_reducible refine Keeps.trans ?_ (by with_reducible assumption)) | go_size)); (first | done | fail))))).mono ?_; rintro e w' ⟨rfl, rfl⟩)
        | (go_at_call 33; refine (crPoint_c (hx.keeps (by ((repeat' (first | (with_reducible exact Keeps.refl _) | (with_reducible assumption) | (with_reducible refine Keeps.drewN ?_ _) | (with_reducible refine Keeps.drew ?_) | (with_reducible refine Keeps.alloc ?_ _) | (with_reducible refine Keeps.setCell ?_ ?_ _) | (with_reducible refine Keeps.trans ?_ (After.keeps _)) | (with_reducible refine Keeps.trans ?_ (by with_reducible assumption)) | go_size)); (first | done | fail))))).mono ?_; rintro e w' ⟨rfl, rfl⟩)
        | (go_at_call 16; refine (mcount (M.keeps (by ((repeat' (first | (with_reducible exact Keeps.refl _) | (with_reducible assumption) | (with_reducible refine Keeps.drewN ?_ _) | (with_reducible refine Keeps.drew ?_) | (with_reducible refine Keeps.alloc ?_ _) | (with_reducible refine Keeps.setCell ?_ ?_ _) | (with_reducible refine Keeps.trans ?_ (After.keeps _)) | (with_reducible refine Keeps.trans ?_ (by with_reducible assumption)) | go_size)); (first | done | fail))))).mono ?_; rintro e w' ⟨rfl, rfl⟩))
      go_ret
      exact ⟨rfl, by ((repeat' (first | (with_reducible exact Keeps.refl _) | (with_reducible assumption) | (with_reducible refine Keeps.drewN ?_ _) | (with_reducible refine Keeps.drew ?_) | (with_reducible refine Keeps.alloc ?_ _) | (with_reducible refine Keeps.setCell ?_ ?_ _) | (with_reducible refine Keeps.trans ?_ (After.keeps _)) | (with_reducible refine Keeps.trans ?_ (by with_reducible assumption)) | go_size)); (first | done | fail))⟩
end Go.Proofs.YtaecapjicphdkaaGreat
