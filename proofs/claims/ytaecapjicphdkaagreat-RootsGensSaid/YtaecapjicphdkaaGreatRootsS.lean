/- ends: a region is ended, its slot given back, by one alone, walked. -/
import Derived.Test.YtaecapjicphdkaaGreatRootsR
namespace Go.Proofs.YtaecapjicphdkaaGreat
set_option linter.unusedVariables false
set_option linter.unusedSimpArgs false
open Go Go.RowKit
set_option maxRecDepth 100000
set_option maxHeartbeats 8000000

theorem puRun_stopR {hd lk n k : Nat} {p : List Int × Pu} (h : (puRun hd lk n k p).2.ph = 4) : puRun hd lk n (k + 1) p = puRun hd lk n k p := by
  show (puMem hd lk n (puRun hd lk n k p).1 (puRun hd lk n k p).2, puStep hd (puRun hd lk n k p).1 (puRun hd lk n k p).2) = _
  generalize puRun hd lk n k p = r at *
  obtain ⟨l, ph, c, zs, i, was⟩ := r
  dsimp only at h
  subst h
  rfl
section
variable {w : World} {R m bb S T n : Nat} {l L : List Int} {cc gen : Int} {x : Acc} {sl : Nat}
theorem ends_dead (h1 : 1 ≤ n) (h2 : n ≤ 4) (hsl : sl < n) (HR : Has w R (rootsOf m 1 1 8 n 0 1 S) 109) (M : Mem w m bb (13 + 2 * n) l cc x) (St : StRep 1 (4 + n) n (13 + 2 * n) l T L) (hd : liveW (l.getD (4 + sl) 0) gen = false) (hcc : cc ≤ 4000000000000000000) :
    Calls Tryz.prog 20 #[.pointer (some ⟨R, 0, none⟩), .int .i64 sl, .int .i64 gen] w fun e w' => e = .returned (.bool false) ∧ Upd [m, bb] w w' ∧ Has w' R (rootsOf m 1 1 8 n 0 1 S) 109 ∧ ∃ x', Mem w' m bb (13 + 2 * n) l (cc + 1) x' := by
  have hc0 := M.c0
  have hq : Hid (crootI 1 1 8 n 0 1 sl = ((4 + sl : Nat) : Int)) := Lib.hid (by unfold crootI; rw [atI_t (mayB_rt h1 h2) (by omega) (by omega)]; omega)
  have HRun := Lib.hid (en_dead hd)
  have hlen : 4 + sl < l.length := by rw [St.ok.len]; omega
  have hOK : Hid (∀ k : Nat, WordsOk (enRun (4 + sl) gen k (l, enS)).1 ∧ (enRun (4 + sl) gen k (l, enS)).1.length = l.length ∧ 0 ≤ (enRun (4 + sl) gen k (l, enS)).2.was ∧ (enRun (4 + sl) gen k (l, enS)).2.was < 18446744073709551616 ∧ 0 ≤ (enRun (4 + sl) gen k (l, enS)).2.c ∧ (enRun (4 + sl) gen k (l, enS)).2.c ≤ k) := Lib.hid (fun k => enRun_ok (q := 4 + sl) (gen := gen) St.ok.words hlen k)
  have hsn : (sl : Int) < (n : Int) := by omega
  clear hd
  have nRS : R ∉ [m, bb] := by simp only [List.mem_cons, List.not_mem_nil, or_false, not_or]; exact ⟨Has.ne HR M.hg (by decide), Has.ne HR M.hb (by decide)⟩
  go_enter Tryz.func20, Tryz.ntmps20
  go_wp2_with (go_at_call 13; refine (mkEnd_c _ gen HR (by omega) hsn).mono ?_; rintro e w' ⟨y, rfl, hk, hy, HE⟩; have HR := HR.keeps hk; have M := M.keeps hk; have U0 := Upd.of_keeps (S := [m, bb]) hk)
  have hE : EnRep w' y R sl gen enS := HE
  clear hk HE
  go_loopw [9] (fun i wr => ∃ q : Nat, q ≤ 5 ∧ i = .int .i64 q ∧ EnRep wr y R sl gen (enRun (4 + sl) gen q (l, enS)).2 ∧ Has wr R (rootsOf m 1 1 8 n 0 1 S) 109 ∧ (∃ x, Mem wr m bb (13 + 2 * n) (enRun (4 + sl) gen q (l, enS)).1 (cc + (enRun (4 + sl) gen q (l, enS)).2.c) x) ∧ Upd [m, bb] w wr) (fun i _ => 5 - (intOf i).toNat)
  case atStart => exact ⟨0, by omega, rfl, hE, HR, ⟨_, by show Mem _ _ _ _ l (cc + 0) _; rw [Int.add_zero]; exact M⟩, U0⟩
  case round =>
    obtain ⟨q, hq5, rfl, hE, HR, ⟨x, M⟩, U0⟩ := hrel
    by_cases hlt : q < 5
    · obtain ⟨o1, o2, o3, o4, o5, o6⟩ := hOK.out q
      have CE := Lib.hid (edStep_c hE HR M hq.out (by rw [o2]; exact hlen) o1 ⟨o3, o4, o5, by omega⟩ (by omega))
      have nyR := Has.ne HR (show Has wr y _ 117 from hE) (by decide)
      clear o1 o2 o3 o4 o5 o6
      go_wp2_with (go_at_call 52; refine CE.out.mono ?_; rintro e w9 ⟨rfl, hu, hE, x', M⟩; have HR := HR.upd hu (by simp only [List.mem_cons, List.not_mem_nil, or_false, not_or] at nRS ⊢; exact ⟨nyR, nRS.1, nRS.2⟩))
      go_roundw
      case rel => exact ⟨q + 1, by omega, by go_num, hE, HR, ⟨x', by rw [show (enRun (4 + sl) gen (q + 1) (l, enS)).2.c = (enRun (4 + sl) gen q (l, enS)).2.c + enCount (enRun (4 + sl) gen q (l, enS)).2 from enStep_countR _ _ _ _, ← Int.add_assoc]; exact M⟩, U0.past hu (by intro z hz; simp only [List.mem_cons, List.not_mem_nil, or_false] at hz ⊢; omega)⟩
      case measure => simp [intOf]; omega
    · obtain rfl : q = 5 := by omega
      rw [HRun.out] at hE M
      go_wp2_with (first
        | (go_at_call 53; refine (edDone_s hE).mono ?_; rintro e w' ⟨rfl, rfl⟩)
        | (go_at_call 54; refine (edCode_c hE).mono ?_; rintro e w' ⟨rfl, rfl⟩))
      go_ret
      exact ⟨rfl, U0, HR, x, M⟩
theorem ends_live (h1 : 1 ≤ n) (h2 : n ≤ 4) (hsl : sl < n) (HR : Has w R (rootsOf m 1 1 8 n 0 1 S) 109) (HS : Has w S (stackOf m (1 : Nat) ((4 + n : Nat) : Int) n) 143) (M : Mem w m bb (13 + 2 * n) l cc x) (St : StRep 1 (4 + n) n (13 + 2 * n) l T L) (hT : T < 4294967290) (hL : (sl : Int) ∉ L) (hd : liveW (l.getD (4 + sl) 0) gen = true) (hcc : cc ≤ 4000000000000000000) :
    Calls Tryz.prog 20 #[.pointer (some ⟨R, 0, none⟩), .int .i64 sl, .int .i64 gen] w fun e w' => e = .returned (.bool true) ∧ Upd [m, bb] w w' ∧ Has w' R (rootsOf m 1 1 8 n 0 1 S) 109 ∧ Has w' S (stackOf m (1 : Nat) ((4 + n : Nat) : Int) n) 143 ∧
      ∃ l' x', Mem w' m bb (13 + 2 * n) l' (cc + 5) x' ∧ StRep 1 (4 + n) n (13 + 2 * n) l' (T + 1) ((sl : Int) :: L) ∧ l'.getD (4 + sl) 0 = rootI (l.getD (4 + sl) 0 / 4294967296) 0 0 0 ∧ (∀ i : Nat, i < n → i ≠ sl → l'.getD (4 + i) 0 = l.getD (4 + i) 0) := by
  have hc0 := M.c0
  have hq : Hid (crootI 1 1 8 n 0 1 sl = ((4 + sl : Nat) : Int)) := Lib.hid (by unfold crootI; rw [atI_t (mayB_rt h1 h2) (by omega) (by omega)]; omega)
  have HRun := Lib.hid (en_live hd)
  have hlen : 4 + sl < l.length := by rw [St.ok.len]; omega
  have hOK : Hid (∀ k : Nat, WordsOk (enRun (4 + sl) gen k (l, enS)).1 ∧ (enRun (4 + sl) gen k (l, enS)).1.length = l.length ∧ 0 ≤ (enRun (4 + sl) gen k (l, enS)).2.was ∧ (enRun (4 + sl) gen k (l, enS)).2.was < 18446744073709551616 ∧ 0 ≤ (enRun (4 + sl) gen k (l, enS)).2.c ∧ (enRun (4 + sl) gen k (l, enS)).2.c ≤ k) := Lib.hid (fun k => enRun_ok (q := 4 + sl) (gen := gen) St.ok.words hlen k)
  have hsn : (sl : Int) < (n : Int) := by omega
  obtain ⟨vz, hvz⟩ : ∃ v, rootI (l.getD (4 + sl) 0 / 4294967296) 0 0 0 = v := ⟨_, rfl⟩
  have hvb := rootI_bd (l.getD (4 + sl) 0 / 4294967296) 0 0 0
  rw [hvz] at HRun hvb ⊢
  have St1 : StRep 1 (4 + n) n (13 + 2 * n) (l.set (4 + sl) vz) T L := St.out (by omega) (by omega) hvb.1 hvb.2
  have hz1 : itemsB n [(sl : Int)] := ⟨by simp; omega, by simp⟩
  obtain ⟨pd, pph, pc, pst⟩ := push_alone St1 hz1 (by simp) (by simp; exact hL) hT
  have hI := Lib.hid (pu0_inv (n := n) (zs := [(sl : Int)]) (by simp) hz1 (by simp))
  have hp3 : Hid (puRun 1 (4 + n) n 5 (l.set (4 + sl) vz, pu0 [(sl : Int)]) = puRun 1 (4 + n) n 3 (l.set (4 + sl) vz, pu0 [(sl : Int)])) := Lib.hid (by
    have e1 := puRun_stopR (k := 3) pph
    have e2 := puRun_stopR (k := 4) (by rw [e1]; exact pph)
    exact e2.trans e1)
  have hoth : Hid (∀ i : Nat, i < n → (puRun 1 (4 + n) n 3 (l.set (4 + sl) vz, pu0 [(sl : Int)])).1.getD (4 + i) 0 = (l.set (4 + sl) vz).getD (4 + i) 0) := Lib.hid (fun i hi => puRun_other (i := 4 + i) (by omega) (by omega) St1.ok hI.out 3)
  have hPP : Hid ((puRun 1 (4 + n) n 3 (l.set (4 + sl) vz, pu0 [(sl : Int)])).2.ph = 4 ∧ (puRun 1 (4 + n) n 3 (l.set (4 + sl) vz, pu0 [(sl : Int)])).2.c = 3 ∧ StRep 1 (4 + n) n (13 + 2 * n) (puRun 1 (4 + n) n 3 (l.set (4 + sl) vz, pu0 [(sl : Int)])).1 (T + 1) ((sl : Int) :: L)) := Lib.hid ⟨pph, pc.trans (by simp), pst⟩
  have hS1 := Lib.hid St1.ok
  clear hd pd pph pc pst hvz hL hT
  have nRS : R ∉ [m, bb] := by simp only [List.mem_cons, List.not_mem_nil, or_false, not_or]; exact ⟨Has.ne HR M.hg (by decide), Has.ne HR M.hb (by decide)⟩
  have nSS : S ∉ [m, bb] := by simp only [List.mem_cons, List.not_mem_nil, or_false, not_or]; exact ⟨Has.ne HS M.hg (by decide), Has.ne HS M.hb (by decide)⟩
  go_enter Tryz.func20, Tryz.ntmps20
  go_wp2_with (go_at_call 13; refine (mkEnd_c _ gen HR (by omega) hsn).mono ?_; rintro e w' ⟨y, rfl, hk, hy, HE⟩; have HR := HR.keeps hk; have HS := HS.keeps hk; have M := M.keeps hk; have U0 := Upd.of_keeps (S := [m, bb]) hk)
  have hE : EnRep w' y R sl gen enS := HE
  clear hk HE
  go_loopw [9] (fun i wr => ∃ q : Nat, q ≤ 5 ∧ i = .int .i64 q ∧ EnRep wr y R sl gen (enRun (4 + sl) gen q (l, enS)).2 ∧ Has wr R (rootsOf m 1 1 8 n 0 1 S) 109 ∧ Has wr S (stackOf m (1 : Nat) ((4 + n : Nat) : Int) n) 143 ∧ (∃ x, Mem wr m bb (13 + 2 * n) (enRun (4 + sl) gen q (l, enS)).1 (cc + (enRun (4 + sl) gen q (l, enS)).2.c) x) ∧ Upd [m, bb] w wr) (fun i _ => 5 - (intOf i).toNat)
  case atStart => exact ⟨0, by omega, rfl, hE, HR, HS, ⟨_, by show Mem _ _ _ _ l (cc + 0) _; rw [Int.add_zero]; exact M⟩, U0⟩
  case round =>
    obtain ⟨q, hq5, rfl, hE, HR, HS, ⟨x, M⟩, U0⟩ := hrel
    by_cases hlt : q < 5
    · obtain ⟨o1, o2, o3, o4, o5, o6⟩ := hOK.out q
      have CE := Lib.hid (edStep_c hE HR M hq.out (by rw [o2]; exact hlen) o1 ⟨o3, o4, o5, by omega⟩ (by omega))
      have nyR := Has.ne HR (show Has wr y _ 117 from hE) (by decide)
      have nyS := Has.ne HS (show Has wr y _ 117 from hE) (by decide)
      clear o1 o2 o3 o4 o5 o6
      go_wp2_with (go_at_call 52; refine CE.out.mono ?_; rintro e w9 ⟨rfl, hu, hE, x', M⟩; have HR := HR.upd hu (by simp only [List.mem_cons, List.not_mem_nil, or_false, not_or] at nRS ⊢; exact ⟨nyR, nRS.1, nRS.2⟩); have HS := HS.upd hu (by simp only [List.mem_cons, List.not_mem_nil, or_false, not_or] at nSS ⊢; exact ⟨nyS, nSS.1, nSS.2⟩))
      go_roundw
      case rel => exact ⟨q + 1, by omega, by go_num, hE, HR, HS, ⟨x', by rw [show (enRun (4 + sl) gen (q + 1) (l, enS)).2.c = (enRun (4 + sl) gen q (l, enS)).2.c + enCount (enRun (4 + sl) gen q (l, enS)).2 from enStep_countR _ _ _ _, ← Int.add_assoc]; exact M⟩, U0.past hu (by intro z hz; simp only [List.mem_cons, List.not_mem_nil, or_false] at hz ⊢; omega)⟩
      case measure => simp [intOf]; omega
    · obtain rfl : q = 5 := by omega
      rw [HRun.out] at hE M
      have M : Mem wr m bb (13 + 2 * n) (l.set (4 + sl) vz) (cc + 2) x := M
      go_wp2_with (first
        | (go_at_call 53; refine (edDone_s hE).mono ?_; rintro e w' ⟨rfl, rfl⟩)
        | (go_at_call 54; refine (edCode_c hE).mono ?_; rintro e w' ⟨rfl, rfl⟩)
        | (go_at_call 14; refine (back_c _ HR HS (by omega) hsn).mono ?_; rintro e w' ⟨g, v, rfl, hk, hg, HP⟩; have HR := HR.keeps hk; have HS := HS.keeps hk; have M := M.keeps hk; have szb := U0.size; have U0 := U0.trans (Upd.of_keeps hk)))
      generalize hl1 : l.set (4 + sl) vz = l1 at *
      have hL1 := Lib.hid hl1.symm
      clear hl1
      have HP : PuRep w' (wr.heap.size + 1) g S v (pu0 [(sl : Int)]) := HP
      have hg2 : w.heap.size ≤ g := by omega
      go_loopw [12] (fun i w2 => ∃ q : Nat, q ≤ 5 ∧ i = .int .i64 q ∧ PuRep w2 (wr.heap.size + 1) g S v (puRun 1 (4 + n) n q (l1, pu0 [(sl : Int)])).2 ∧ Has w2 R (rootsOf m 1 1 8 n 0 1 S) 109 ∧ Has w2 S (stackOf m (1 : Nat) ((4 + n : Nat) : Int) n) 143 ∧ (∃ x, Mem w2 m bb (13 + 2 * n) (puRun 1 (4 + n) n q (l1, pu0 [(sl : Int)])).1 (cc + 2 + (puRun 1 (4 + n) n q (l1, pu0 [(sl : Int)])).2.c) x) ∧ Upd [m, bb] w w2) (fun i _ => 5 - (intOf i).toNat)
      case atStart => exact ⟨0, by omega, rfl, HP, HR, HS, ⟨_, by show Mem _ _ _ _ l1 (cc + 2 + 0) _; rw [Int.add_zero]; exact M⟩, U0⟩
      case round =>
        obtain ⟨q, hq5, rfl, HP, HR, HS, ⟨x, M⟩, U0⟩ := hrel
        by_cases hlt : q < 5
        · obtain ⟨ok, inv⟩ := puRun_inv (hd := 1) (lk := 4 + n) (n := n) (p := (l1, pu0 [(sl : Int)])) hS1.out hI.out q
          have ic0 := inv.c0
          have ic1 := inv.c1
          have CE := Lib.hid (puStep_c HP HS M ok (inv.ok (by omega)) (by omega))
          have nyR := Has.ne HR HP.has (by decide)
          have nyS := Has.ne HS HP.has (by decide)
          clear ok inv ic0 ic1
          go_wp2_with (go_at_call 55; refine CE.out.mono ?_; rintro e w9 ⟨rfl, hu, HP, x', M⟩; have HR := HR.upd hu (by simp only [List.mem_cons, List.not_mem_nil, or_false, not_or] at nRS ⊢; exact ⟨nyR, nRS.1, nRS.2⟩); have HS := HS.upd hu (by simp only [List.mem_cons, List.not_mem_nil, or_false, not_or] at nSS ⊢; exact ⟨nyS, nSS.1, nSS.2⟩))
          go_roundw
          case rel => exact ⟨q + 1, by omega, by go_num, HP, HR, HS, ⟨x', by rw [show (puRun 1 (4 + n) n (q + 1) (l1, pu0 [(sl : Int)])).2.c = (puRun 1 (4 + n) n q (l1, pu0 [(sl : Int)])).2.c + puCount (puRun 1 (4 + n) n q (l1, pu0 [(sl : Int)])).2 from puStep_count _ _ _, ← Int.add_assoc]; exact M⟩, U0.past hu (by intro z hz; simp only [List.mem_cons, List.not_mem_nil, or_false] at hz ⊢; omega)⟩
          case measure => simp [intOf]; omega
        · obtain rfl : q = 5 := by omega
          rw [hp3.out] at HP M
          have HD : Hid (decide (4 ≤ (puRun 1 (4 + n) n 3 (l1, pu0 [(sl : Int)])).2.ph) = true) := Lib.hid (by rw [hPP.out.1]; rfl)
          go_wp2_with (go_at_call 56; refine (puDone_c HP).mono ?_; rintro e w' ⟨rfl, rfl⟩; rw [HD.out])
          go_ret
          have M : Mem wr m bb (13 + 2 * n) (puRun 1 (4 + n) n 3 (l1, pu0 [(sl : Int)])).1 (cc + 5) x := by
            have h := M
            rw [hPP.out.2.1] at h
            rw [show cc + 5 = cc + 2 + 3 by omega]
            exact h
          refine ⟨rfl, U0, HR, HS, _, x, M, hPP.out.2.2, ?_, fun i hi hne => ?_⟩
          · rw [hoth.out sl hsl, hL1.out]; exact getD_set_eq _ hlen
          · rw [hoth.out i hi, hL1.out]; exact getD_set_ne _ (by omega)
end
end Go.Proofs.YtaecapjicphdkaaGreat
