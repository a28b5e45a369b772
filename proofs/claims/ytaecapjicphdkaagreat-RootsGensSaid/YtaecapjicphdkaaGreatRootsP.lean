/- creates: a region by one alone, walked. -/
import Derived.Test.YtaecapjicphdkaaGreatRootsK
namespace Go.Proofs.YtaecapjicphdkaaGreat
set_option linter.unusedVariables false
set_option linter.unusedSimpArgs false
open Go Go.RowKit
set_option maxRecDepth 100000
set_option maxHeartbeats 4000000

section
variable {w : World} {R m bb S N B A0 : Nat} {l : List Int} {cc : Int} {x : Acc} {p k d sn cz b : Int} {y pg hd lk n ra : Nat} {cls : Int} {v : Value} {s : Cr}
theorem crAt_stepU {j : Nat} (h : CrAt w y pg R S m bb N cls hd lk n ra l cc A0 j) (hR : Has w R (rootsOf m p k d sn cz b S) 109) (hS : Has w S (stackOf m hd lk n) 143) (L : StOk hd lk n N l) (A : RtAt p k d sn cz b ra n N) (hj : j ≤ 100000) (hA : A0 ≤ w.heap.size) (hy : A0 ≤ y) (hpg : A0 ≤ pg) (h0 : 0 ≤ cc) (hcc : cc ≤ 4000000000000000000) :
    Calls Tryz.prog 29 #[.pointer (some ⟨y, 0, none⟩)] w fun e w' => (∃ o, e = .returned (.bool o)) ∧ (∀ w0, Upd [m, bb] w0 w → w0.heap.size ≤ A0 → Upd [m, bb] w0 w') ∧ CrAt w' y pg R S m bb N cls hd lk n ra l cc A0 (j + 1) ∧ Has w' R (rootsOf m p k d sn cz b S) 109 ∧ Has w' S (stackOf m hd lk n) 143 ∧ w.heap.size ≤ w'.heap.size ∧
      (∀ (g : Nat) (cs : Array Value) (T : TypeId), Has w g cs T → T ≠ 140 → T ≠ 177 → T ≠ 103 → T ≠ 99 → T ≠ 3 → Has w' g cs T) := by
  obtain ⟨v, x, hr, M, hv⟩ := h.ex
  obtain ⟨okl, inv⟩ := crRun_inv (hd := hd) (lk := lk) (n := n) (N := N) (ra := ra) (cls := cls) (p := (l, cr0)) (C := 0) L (cr0_inv n) j
  have ic0 := inv.c0
  have ic1 := inv.c1
  refine (crStep_c hr hR hS M okl A (inv.ok (by omega)) hA (by omega)).mono ?_
  rintro e w' ⟨v', rfl, hu, hr', ⟨x', M'⟩, ho⟩
  have tr : ∀ (g : Nat) (cs : Array Value) (T : TypeId), Has w g cs T → T ≠ 140 → T ≠ 177 → T ≠ 103 → T ≠ 99 → T ≠ 3 → Has w' g cs T :=
    fun g cs T hg t1 t2 t3 t4 t5 => hg.upd hu (hr.other M hg t1 t2 t3 t4 t5)
  refine ⟨⟨_, rfl⟩, fun w0 hk hw0 => hk.past hu (fun z hz => ?_), ⟨v', x', hr', ?_, fun z hz => ?_⟩, tr _ _ _ hR (by decide) (by decide) (by decide) (by decide) (by decide), tr _ _ _ hS (by decide) (by decide) (by decide) (by decide) (by decide), hu.size, tr⟩
  · simp only [List.mem_cons] at hz
    rcases hz with rfl | rfl | rfl | rfl | hz
    · right; omega
    · right; omega
    · left; simp
    · left; simp
    · have := hv z hz; right; omega
  · have e1 : (crRun hd lk n ra cls (j + 1) (l, cr0)).2.c = (crRun hd lk n ra cls j (l, cr0)).2.c + crCount (crRun hd lk n ra cls j (l, cr0)).2 := crStep_count _ _ _ _ _ _ _
    rw [e1, ← Int.add_assoc]
    exact M'
  · rcases ho z hz with h1 | h1
    · exact hv z h1
    · omega
end
section
variable {w : World} {R m bb S T n : Nat} {l L : List Int} {cc z : Int} {x : Acc}
theorem creates_some (class_ : Int) (h1 : 1 ≤ n) (h2 : n ≤ 4) (hT : T < 4294967290) (HR : Has w R (rootsOf m 1 1 8 n 0 1 S) 109) (HS : Has w S (stackOf m (1 : Nat) ((4 + n : Nat) : Int) n) 143) (M : Mem w m bb (13 + 2 * n) l cc x) (St : StRep 1 (4 + n) n (13 + 2 * n) l T (z :: L)) (hcc : cc ≤ 4000000000000000000) :
    Calls Tryz.prog 19 #[.pointer (some ⟨R, 0, none⟩), .int .i64 class_] w fun e w' => e = .returned (.tuple #[.int .i64 z, .int .i64 (genN (l.getD (4 + z.toNat) 0 / 4294967296)), .bool true]) ∧ Upd [m, bb] w w' ∧ Has w' R (rootsOf m 1 1 8 n 0 1 S) 109 ∧ Has w' S (stackOf m (1 : Nat) ((4 + n : Nat) : Int) n) 143 ∧
      ∃ l' x', Mem w' m bb (13 + 2 * n) (l'.set (4 + z.toNat) (rootI (genN (l.getD (4 + z.toNat) 0 / 4294967296)) 1 (clampI class_) 0)) (cc + 5) x' ∧ StRep 1 (4 + n) n (13 + 2 * n) l' (T + 1) L ∧ (∀ i : Nat, i ≠ 1 → l'.getD i 0 = l.getD i 0) := by
  have hc0 := M.c0
  obtain ⟨pop, l', hrun, hst, hoth, -⟩ := cr_some (cls := clampI class_) (ra := 4) St hT (by omega) (by omega)
  have hrun10 : crRun 1 (4 + n) n 4 (clampI class_) 10 (l, cr0) = _ := (crRun_stop (k := 5) (by rw [hrun]) 5).trans hrun
  have HRun := Lib.hid hrun10
  have HOk := Lib.hid St.ok
  have HAt := Lib.hid (rtAt n h1 h2)
  have HT2 := Lib.hid (And.intro hst hoth)
  clear hrun hrun10 hst hoth
  generalize genN (l.getD (4 + z.toNat) 0 / 4294967296) = G at *
  have hsz := HR.lt
  go_enter Tryz.func19, Tryz.ntmps19
  go_wp2_with (go_at_call 28; refine (mkCreate_c (B := w.heap.size) _ HR).mono ?_; rintro e w' ⟨y, pg, rfl, hk, hy, hpg, hp, hx⟩; have HR := HR.keeps hk; have HS := HS.keeps hk; have M := M.keeps hk; have U0 := Upd.of_keeps (S := [m, bb]) hk)
  have hA : w.heap.size ≤ w'.heap.size := U0.size
  have C := crAt_start (hd := 1) (lk := 4 + n) (n := n) (ra := 4) hp hx M
  clear hp hx M hk
  go_loopw [8] (fun i wr => ∃ q : Nat, q ≤ 10 ∧ i = .int .i64 q ∧ CrAt wr y pg R S m bb (13 + 2 * n) (clampI class_) 1 (4 + n) n 4 l cc w.heap.size q ∧ Has wr R (rootsOf m 1 1 8 n 0 1 S) 109 ∧ Has wr S (stackOf m (1 : Nat) ((4 + n : Nat) : Int) n) 143 ∧ Upd [m, bb] w wr) (fun i _ => 10 - (intOf i).toNat)
  case atStart => exact ⟨0, by omega, rfl, C, HR, HS, U0⟩
  case round =>
    obtain ⟨q, hq, rfl, C, HR, HS, U0⟩ := hrel
    have hAr := U0.size
    by_cases hlt : q < 10
    · go_wp2_with (go_at_call 29; refine (crAt_stepU C HR HS HOk.out HAt.out (by omega) hAr hy hpg hc0 hcc).mono ?_; rintro e w9 ⟨⟨o, rfl⟩, hkk, C, HR, HS, -, -⟩; have U0 := hkk w U0 (Nat.le_refl _))
      go_roundw
      case rel => exact ⟨q + 1, by omega, by go_num, C, HR, HS, U0⟩
      case measure => simp [intOf]; omega
    · obtain rfl : q = 10 := by omega
      obtain ⟨v, x', hr, M, -⟩ := C.ex
      rw [HRun.out] at hr M
      have hx := hr.has
      have HReg := Lib.hid (crRegion_c (o := none) (s2 := z) (g2 := G) (fun _ => ⟨rfl, rfl⟩) (fun h => absurd ⟨rfl, rfl⟩ h) hx)
      clear C hr
      go_wp2_with (first
        | (go_at_call 30; refine HReg.out.mono ?_; rintro e w9 ⟨rfl, j, rfl⟩)
        | (go_at_call 31; refine (crDone_c (o := none) (hx.keeps (by ((repeat' (first | (with_reducible exact Keeps.refl _) | (with_reducible assumption) | (with_reducible refine Keeps.drewN ?_ _) | (with_reducible refine Keeps.drew ?_) | (with_reducible refine Keeps.alloc ?_ _) | (with_reducible refine Keeps.setCell ?_ ?_ _) | (with_reducible refine Keeps.trans ?_ (After.keeps _)) | (with_reducible refine Keeps.trans ?_ (by with_reducible assumption)) | go_size)); (first | done | fail))))).mono ?_; rintro e w' ⟨rfl, rfl⟩)
        | (go_at_call 32; refine (crCode_c (hx.keeps (by ((repeat' (first | (with_reducible exact Keeps.refl _) | (with_reducible assumption) | (with_reducible refine Keeps.drewN ?_ _) | (with_reducible refine Keeps.drew ?_) | (with_reducible refine Keeps.alloc ?_ _) | (with_reducible refine Keeps.setCell ?_ ?_ _) | (with_reducible refine Keeps.trans ?_ (After.keeps _)) | (with_reducible refine Keeps.trans ?_ (by with_reducible assumption)) | go_size)); (first | done | fail))))).mono ?_; rintro e w' ⟨rfl, rfl⟩))
      refine bodyPost_ret (v := .tuple #[.int .i64 z, .int .i64 G, .bool true]) (by simp [results, Tryz.results19, go_sem]) rfl ?_
      exact ⟨rfl, U0.trans (Upd.of_keeps (by ((repeat' (first | (with_reducible exact Keeps.refl _) | (with_reducible assumption) | (with_reducible refine Keeps.drewN ?_ _) | (with_reducible refine Keeps.drew ?_) | (with_reducible refine Keeps.alloc ?_ _) | (with_reducible refine Keeps.setCell ?_ ?_ _) | (with_reducible refine Keeps.trans ?_ (After.keeps _)) | (with_reducible refine Keeps.trans ?_ (by with_reducible assumption)) | go_size)); (first | done | fail)))), HR.keeps (by ((repeat' (first | (with_reducible exact Keeps.refl _) | (with_reducible assumption) | (with_reducible refine Keeps.drewN ?_ _) | (with_reducible refine Keeps.drew ?_) | (with_reducible refine Keeps.alloc ?_ _) | (with_reducible refine Keeps.setCell ?_ ?_ _) | (with_reducible refine Keeps.trans ?_ (After.keeps _)) | (with_reducible refine Keeps.trans ?_ (by with_reducible assumption)) | go_size)); (first | done | fail))), HS.keeps (by ((repeat' (first | (with_reducible exact Keeps.refl _) | (with_reducible assumption) | (with_reducible refine Keeps.drewN ?_ _) | (with_reducible refine Keeps.drew ?_) | (with_reducible refine Keeps.alloc ?_ _) | (with_reducible refine Keeps.setCell ?_ ?_ _) | (with_reducible refine Keeps.trans ?_ (After.keeps _)) | (with_reducible refine Keeps.trans ?_ (by with_reducible assumption)) | go_size)); (first | done | fail))), l', x', M.keeps (by ((repeat' (first | (with_reducible exact Keeps.refl _) | (with_reducible assumption) | (with_reducible refine Keeps.drewN ?_ _) | (with_reducible refine Keeps.drew ?_) | (with_reducible refine Keeps.alloc ?_ _) | (with_reducible refine Keeps.setCell ?_ ?_ _) | (with_reducible refine Keeps.trans ?_ (After.keeps _)) | (with_reducible refine Keeps.trans ?_ (by with_reducible assumption)) | go_size)); (first | done | fail))), HT2.out.1, HT2.out.2⟩
theorem creates_none (class_ : Int) (h1 : 1 ≤ n) (h2 : n ≤ 4) (HR : Has w R (rootsOf m 1 1 8 n 0 1 S) 109) (HS : Has w S (stackOf m (1 : Nat) ((4 + n : Nat) : Int) n) 143) (M : Mem w m bb (13 + 2 * n) l cc x) (St : StRep 1 (4 + n) n (13 + 2 * n) l T []) (hcc : cc ≤ 4000000000000000000) :
    Calls Tryz.prog 19 #[.pointer (some ⟨R, 0, none⟩), .int .i64 class_] w fun e w' => e = .returned (.tuple #[.int .i64 0, .int .i64 0, .bool false]) ∧ Upd [m, bb] w w' ∧ Has w' R (rootsOf m 1 1 8 n 0 1 S) 109 ∧ Has w' S (stackOf m (1 : Nat) ((4 + n : Nat) : Int) n) 143 ∧
      ∃ x', Mem w' m bb (13 + 2 * n) l (cc + 1) x' := by
  have hc0 := M.c0
  have hrun := cr_none (ra := 4) (cls := clampI class_) St
  have hrun10 : crRun 1 (4 + n) n 4 (clampI class_) 10 (l, cr0) = _ := (crRun_stop (k := 1) (by rw [hrun]) 9).trans hrun
  have HRun := Lib.hid hrun10
  have HOk := Lib.hid St.ok
  have HAt := Lib.hid (rtAt n h1 h2)
  clear hrun hrun10
  have hsz := HR.lt
  go_enter Tryz.func19, Tryz.ntmps19
  go_wp2_with (go_at_call 28; refine (mkCreate_c (B := w.heap.size) _ HR).mono ?_; rintro e w' ⟨y, pg, rfl, hk, hy, hpg, hp, hx⟩; have HR := HR.keeps hk; have HS := HS.keeps hk; have M := M.keeps hk; have U0 := Upd.of_keeps (S := [m, bb]) hk)
  have hA : w.heap.size ≤ w'.heap.size := U0.size
  have C := crAt_start (hd := 1) (lk := 4 + n) (n := n) (ra := 4) hp hx M
  clear hp hx M hk
  go_loopw [8] (fun i wr => ∃ q : Nat, q ≤ 10 ∧ i = .int .i64 q ∧ CrAt wr y pg R S m bb (13 + 2 * n) (clampI class_) 1 (4 + n) n 4 l cc w.heap.size q ∧ Has wr R (rootsOf m 1 1 8 n 0 1 S) 109 ∧ Has wr S (stackOf m (1 : Nat) ((4 + n : Nat) : Int) n) 143 ∧ Upd [m, bb] w wr) (fun i _ => 10 - (intOf i).toNat)
  case atStart => exact ⟨0, by omega, rfl, C, HR, HS, U0⟩
  case round =>
    obtain ⟨q, hq, rfl, C, HR, HS, U0⟩ := hrel
    have hAr := U0.size
    by_cases hlt : q < 10
    · go_wp2_with (go_at_call 29; refine (crAt_stepU C HR HS HOk.out HAt.out (by omega) hAr hy hpg hc0 hcc).mono ?_; rintro e w9 ⟨⟨o, rfl⟩, hkk, C, HR, HS, -, -⟩; have U0 := hkk w U0 (Nat.le_refl _))
      go_roundw
      case rel => exact ⟨q + 1, by omega, by go_num, C, HR, HS, U0⟩
      case measure => simp [intOf]; omega
    · obtain rfl : q = 10 := by omega
      obtain ⟨v, x', hr, M, -⟩ := C.ex
      rw [HRun.out] at hr M
      have hx := hr.has
      have HReg := Lib.hid (crRegion_c (o := none) (s2 := 0) (g2 := 0) (fun h => by simp at h) (fun _ => ⟨rfl, rfl⟩) hx)
      clear C hr
      go_wp2_with (first
        | (go_at_call 30; refine HReg.out.mono ?_; rintro e w9 ⟨rfl, j, rfl⟩)
        | (go_at_call 31; refine (crDone_c (o := none) (hx.keeps (by ((repeat' (first | (with_reducible exact Keeps.refl _) | (with_reducible assumption) | (with_reducible refine Keeps.drewN ?_ _) | (with_reducible refine Keeps.drew ?_) | (with_reducible refine Keeps.alloc ?_ _) | (with_reducible refine Keeps.setCell ?_ ?_ _) | (with_reducible refine Keeps.trans ?_ (After.keeps _)) | (with_reducible refine Keeps.trans ?_ (by with_reducible assumption)) | go_size)); (first | done | fail))))).mono ?_; rintro e w' ⟨rfl, rfl⟩)
        | (go_at_call 32; refine (crCode_c (hx.keeps (by ((repeat' (first | (with_reducible exact Keeps.refl _) | (with_reducible assumption) | (with_reducible refine Keeps.drewN ?_ _) | (with_reducible refine Keeps.drew ?_) | (with_reducible refine Keeps.alloc ?_ _) | (with_reducible refine Keeps.setCell ?_ ?_ _) | (with_reducible refine Keeps.trans ?_ (After.keeps _)) | (with_reducible refine Keeps.trans ?_ (by with_reducible assumption)) | go_size)); (first | done | fail))))).mono ?_; rintro e w' ⟨rfl, rfl⟩))
      refine bodyPost_ret (v := .tuple #[.int .i64 0, .int .i64 0, .bool false]) (by simp [results, Tryz.results19, go_sem]) rfl ?_
      exact ⟨rfl, U0.trans (Upd.of_keeps (by ((repeat' (first | (with_reducible exact Keeps.refl _) | (with_reducible assumption) | (with_reducible refine Keeps.drewN ?_ _) | (with_reducible refine Keeps.drew ?_) | (with_reducible refine Keeps.alloc ?_ _) | (with_reducible refine Keeps.setCell ?_ ?_ _) | (with_reducible refine Keeps.trans ?_ (After.keeps _)) | (with_reducible refine Keeps.trans ?_ (by with_reducible assumption)) | go_size)); (first | done | fail)))), HR.keeps (by ((repeat' (first | (with_reducible exact Keeps.refl _) | (with_reducible assumption) | (with_reducible refine Keeps.drewN ?_ _) | (with_reducible refine Keeps.drew ?_) | (with_reducible refine Keeps.alloc ?_ _) | (with_reducible refine Keeps.setCell ?_ ?_ _) | (with_reducible refine Keeps.trans ?_ (After.keeps _)) | (with_reducible refine Keeps.trans ?_ (by with_reducible assumption)) | go_size)); (first | done | fail))), HS.keeps (by ((repeat' (first | (with_reducible exact Keeps.refl _) | (with_reducible assumption) | (with_reducible refine Keeps.drewN ?_ _) | (with_reducible refine Keeps.drew ?_) | (with_reducible refine Keeps.alloc ?_ _) | (with_reducible refine Keeps.setCell ?_ ?_ _) | (with_reducible refine Keeps.trans ?_ (After.keeps _)) | (with_reducible refine Keeps.trans ?_ (by with_reducible assumption)) | go_size)); (first | done | fail))), x', M.keeps (by ((repeat' (first | (with_reducible exact Keeps.refl _) | (with_reducible assumption) | (with_reducible refine Keeps.drewN ?_ _) | (with_reducible refine Keeps.drew ?_) | (with_reducible refine Keeps.alloc ?_ _) | (with_reducible refine Keeps.setCell ?_ ?_ _) | (with_reducible refine Keeps.trans ?_ (After.keeps _)) | (with_reducible refine Keeps.trans ?_ (by with_reducible assumption)) | go_size)); (first | done | fail)))⟩
end
end Go.Proofs.YtaecapjicphdkaaGreat
