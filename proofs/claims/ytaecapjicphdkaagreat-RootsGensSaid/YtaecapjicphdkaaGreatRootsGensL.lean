/- The law RootsGens, walked. -/
import Derived.Test.YtaecapjicphdkaaGreatRootsGensP
import Derived.Test.YtaecapjicphdkaaGreatReads
import Derived.LoopTactic
namespace Go.Proofs.YtaecapjicphdkaaGreat
set_option linter.unusedVariables false
set_option linter.unusedSimpArgs false
open Go Go.RowKit
set_option maxRecDepth 100000
set_option maxHeartbeats 20000000

@[go_sem] theorem rootg_field1 (a b c d : Int) (w : World) : Sem.run Tryz.prog (Instr.field 45 (.agg #[.int .i64 a, .int .i64 b, .int .i64 c, .int .i64 d]) 1) w = .ok (.int .i64 b) w := by kernel_rfl
@[go_sem] theorem rootg_field2 (a b c d : Int) (w : World) : Sem.run Tryz.prog (Instr.field 45 (.agg #[.int .i64 a, .int .i64 b, .int .i64 c, .int .i64 d]) 2) w = .ok (.int .i64 c) w := by kernel_rfl
def gV (gs : List Int) : Array Value := (gs.map (fun z => Value.int .i64 z)).toArray
def bV (lv : List Bool) : Array Value := (lv.map Value.bool).toArray
theorem number_exG (v n : Int) (w : World) (h : 1 ≤ n) (h2 : n ≤ 4611686018427387904) : Calls Tryz.prog 10 #[.int .i64 v, .int .i64 n] w fun e w' => ∃ q : Nat, e = .returned (.int .i64 q) ∧ (q : Int) < n ∧ w = w' := by
  have hb := mod_bd v n h
  obtain ⟨q, hq⟩ := Int.eq_ofNat_of_zero_le hb.1
  refine (number_c v n w h h2).mono ?_
  rintro e w' ⟨rfl, rfl⟩
  exact ⟨q, by rw [hq], by omega, rfl⟩
theorem GenAt.upd1 {w wr w2 : World} {m bb R S n T u j g : Nat} {l L gs cs : List Int} {lv : List Bool} {cc : Int} {xs : Array Value} {t : TypeId} (h : GenAt w wr m bb R S n l L T gs cs lv u cc j) (hg : Has wr g xs t) (hu : Upd [g] wr w2) (t1 : 109 ≠ t) (t2 : 143 ≠ t) (t3 : 103 ≠ t) (t4 : 99 ≠ t) (hB : w.heap.size ≤ g) : GenAt w w2 m bb R S n l L T gs cs lv u cc j :=
  ⟨h.hR.upd hu (by simpa using h.hR.ne hg t1), h.hS.upd hu (by simpa using h.hS.ne hg t2), by obtain ⟨x, M⟩ := h.mem; exact ⟨x, M.upd hu (by simpa using M.hg.ne hg t3) (by simpa using M.hb.ne hg t4)⟩, h.st, h.n1, h.n4, h.glen, h.clen, h.vlen, h.root, h.gbd, h.cbd, h.spare, h.used, h.tb, h.cb, h.jb, h.keeps.upd hu (by simpa using hB), h.hm, h.hb⟩
theorem Upd.cell {S : List Nat} {a b : World} (h : Upd S a b) {g o : Nat} (hg : g < a.heap.size) (hn : g ∉ S) : b.cell? ⟨g, o, none⟩ = a.cell? ⟨g, o, none⟩ := by
  simp [World.cell?, h.block g hg hn]
theorem gV_at {gs : List Int} {i : Nat} (h : i < gs.length) : (gV gs)[i]? = some (.int .i64 (gs.getD i 0)) := by
  unfold gV; simp [List.getD_eq_getElem?_getD, List.getElem?_eq_getElem h]
theorem bV_at {lv : List Bool} {i : Nat} (h : i < lv.length) : (bV lv)[i]? = some (.bool (lv.getD i false)) := by
  unfold bV; simp [List.getD_eq_getElem?_getD, List.getElem?_eq_getElem h]
theorem bV_set (lv : List Bool) (i : Nat) (v : Bool) : (bV lv).setIfInBounds i (.bool v) = bV (lv.set i v) := by
  unfold bV; simp
theorem gV_set (gs : List Int) (i : Nat) (v : Int) : (gV gs).setIfInBounds i (.int .i64 v) = gV (gs.set i v) := by
  unfold gV; simp
theorem GenAt.peekR {w wr : World} {m bb R S n T u j : Nat} {l L gs cs : List Int} {lv : List Bool} {cc : Int} (h : GenAt w wr m bb R S n l L T gs cs lv u cc j) {i : Nat} (hi : i < n) :
    Calls Tryz.prog 15 #[.pointer (some ⟨R, 0, none⟩), .int .i64 i] wr fun e w' => e = .returned (.agg #[.int .i64 (gs.getD i 0), .int .i64 (mkI (lv.getD i false)), .int .i64 (cs.getD i 0), .int .i64 0]) ∧ Keeps wr w' := by
  obtain ⟨x, M⟩ := h.mem
  have hg := h.gbd i
  have hc := h.cbd i
  have hjb := h.jb
  have hm : mkI (lv.getD i false) = 0 ∨ mkI (lv.getD i false) = 1 := by unfold mkI; split <;> simp
  have hp := rootI_parts (g := gs.getD i 0) hg.1 (by omega) hm hc.1 hc.2
  have h4 : rootI (gs.getD i 0) (mkI (lv.getD i false)) (cs.getD i 0) 0 % 4096 = 0 := by
    rw [rootI_gen hg.1 (by omega) hm hc.1 hc.2]; rcases hm with e | e <;> rw [e] <;> omega
  have hat : l[4 + i]? = some (l.getD (4 + i) 0) := getD_some (by rw [h.st.ok.len]; omega)
  rw [h.root i hi] at hat
  have hq : crootI 1 1 8 n 0 1 i = ((4 + i : Nat) : Int) := by unfold crootI; rw [atI_t (mayB_rt h.n1 h.n4) (by omega) (by omega)]; omega
  refine (rsRoot_c (i : Int) h.hR (fun w1 hk => by rw [hq]; exact mpeek_in (M.keeps hk) (4 + i) hat) hp.2.2.2.1 hp.2.2.2.2).mono ?_
  rintro e w' ⟨rfl, hk⟩
  refine ⟨?_, hk⟩
  simp only [rootV]
  rw [hp.1, hp.2.1, hp.2.2.1, h4]
theorem GenAt.looks {w wr : World} {m bb R S n T u j : Nat} {l L gs cs : List Int} {lv : List Bool} {cc : Int} (h : GenAt w wr m bb R S n l L T gs cs lv u cc j) {i : Nat} (hi : i < n) (hj : j + 1 ≤ 100) :
    Calls Tryz.prog 12 #[.pointer (some ⟨R, 0, none⟩), .int .i64 i, .int .i64 (gs.getD i 0)] wr fun e w' => ∃ y, e = .returned (.tuple #[.pointer (some ⟨y, 0, none⟩), .int .i64 0]) ∧ Keeps wr w' ∧ wr.heap.size ≤ y ∧
      (∀ w2, Keeps w' w2 → Calls Tryz.prog 21 #[.pointer (some ⟨y, 0, none⟩)] w2 fun e w3 => e = .returned (.bool true) ∧ Upd [y, m, bb] w2 w3 ∧ GenAt w w3 m bb R S n l L T gs cs lv u (cc + 1) (j + 1) ∧ ∃ ofs, Has w3 y (lookOf (nxt none y) 1 R i (gs.getD i 0) (if lv.getD i false then 0 else 3) ofs) 114) := by
  have hq : crootI 1 1 8 n 0 1 i = ((4 + i : Nat) : Int) := by unfold crootI; rw [atI_t (mayB_rt h.n1 h.n4) (by omega) (by omega)]; omega
  have hcb := h.cb
  have hjb := h.jb
  have hlen := h.st.ok.len
  refine (mkLook_c (i : Int) (gs.getD i 0) h.hR (by omega) (by omega)).mono ?_
  rintro e w' ⟨y, rfl, hk, hy, hx⟩
  refine ⟨y, rfl, hk, hy, fun w2 hk2 => ?_⟩
  have h2 := (h.later hk).later hk2
  obtain ⟨x, M⟩ := h2.mem
  have hx2 := hx.keeps hk2
  refine (lkStep_c (q := 4 + i) (nx := none) hx2 h2.hR M hq (by omega) h.st.ok.words (by omega) (by omega) (by omega)).mono ?_
  rintro e w3 ⟨rfl, hu, hx3, x3, M3⟩
  rw [h.liveEq hi] at hx3
  have nyR : R ≠ y := (Has.ne hx2 h2.hR (by decide)).symm
  have nyS : S ≠ y := (Has.ne hx2 h2.hS (by decide)).symm
  have nSm : S ≠ m := Has.ne h2.hS M.hg (by decide)
  have nSb : S ≠ bb := Has.ne h2.hS M.hb (by decide)
  have nRm : R ≠ m := Has.ne h2.hR M.hg (by decide)
  have nRb : R ≠ bb := Has.ne h2.hR M.hb (by decide)
  have hsz := h.keeps.size
  have hmm := h.hm
  have hbb := h.hb
  refine ⟨rfl, hu, ⟨h2.hR.upd hu (by simp; exact ⟨nyR, nRm, nRb⟩), h2.hS.upd hu (by simp; exact ⟨nyS, nSm, nSb⟩), ⟨x3, M3⟩, h.st, h.n1, h.n4, h.glen, h.clen, h.vlen, h.root, fun i => by have := h.gbd i; omega, h.cbd, h.spare, h.used, by have := h.tb; omega, by omega, hj, h2.keeps.upd hu (by simp; omega), h.hm, h.hb⟩, _, hx3⟩
theorem rootsGens_core (nn : Int) (n : Nat) (v : Value) (zs : List Int) (w : World) (hr : Reads .i64 w v zs) (hl : zs.length ≤ 60) (hn : 1 + nn % 4 = n) (h1 : 1 ≤ n) (h4 : n ≤ 4) :
    Calls Tryz.prog 4 #[.int .i64 nn, v] w fun e w' => e = .returned (.bool true) ∧ Keeps w w' := by
  obtain ⟨a, cap, rfl, hrr⟩ := hr
  have HRd := Lib.hid hrr
  obtain ⟨q, hq⟩ : ∃ q, nn % 4 = q := ⟨_, rfl⟩
  have HQ := Lib.hid hq
  rw [hq] at hn
  clear hrr hq
  have hl' : ¬ (60 : Int) < zs.length := by omega
  have MD := Lib.hid (fun (y : World) => madeR_c n y h1 h4)
  have HN1 := Lib.hid hn
  have hqb0 : 0 ≤ q := by omega
  have hqb1 : q ≤ 3 := by omega
  clear hn
  go_enter Tryz.func4, Tryz.ntmps4
  go_upto_region 7 with (first
    | (go_at_call 6; refine (rootsFirst_c _).mono ?_; rintro e w' ⟨rfl, hk0⟩)
    | (go_at_call 10; refine (number_c _ _ _ (by omega) (by omega)).mono ?_; rintro e w' ⟨rfl, rfl⟩; rw [HQ.out]))
  rw [HN1.out]
  go_upto_region 10 with (go_at_call 17; refine (MD.out _).mono ?_; rintro e w2 ⟨m, bb, R, S, W, g0, gb, Pl, Sp, E, rfl, hkk, ⟨hm, hb, -⟩, -, M, HR, HS, -, -, -⟩; have k0s := hk0.size; have K0 := hk0.trans hkk; have hm := Nat.le_trans k0s hm; have hb := Nat.le_trans k0s hb)
  have G0 : GenAt w w2 m bb R S n (rtL n) (baseL n) 0 [0, 0, 0, 0] [0, 0, 0, 0] [false, false, false, false] 0 0 0 := by
    have z4 : ∀ i : Nat, ([0, 0, 0, 0] : List Int).getD i 0 = 0 := fun i => by
      match i with
      | 0 => rfl
      | 1 => rfl
      | 2 => rfl
      | 3 => rfl
      | k + 4 => rfl
    have f4 : ∀ i : Nat, ([false, false, false, false] : List Bool).getD i false = false := fun i => by
      match i with
      | 0 => rfl
      | 1 => rfl
      | 2 => rfl
      | 3 => rfl
      | k + 4 => rfl
    refine ⟨HR, HS, ⟨_, M⟩, rtL_ok n h1 h4, h1, h4, rfl, rfl, rfl, fun i hi => ?_, fun i => ?_, fun i => ?_, fun i hi => ?_, by rw [baseL_len, Nat.add_zero], by omega, by omega, by omega, K0, hm, hb⟩
    · rw [rtL_root n h1 i hi, z4, f4]; decide
    · rw [z4]; omega
    · rw [z4]; omega
    · rw [f4, baseL_mem]; simp; omega
  have hwg := K0.size
  clear MD M HR HS hkk k0s hm hb K0
  go_upto_region 12 with fail
  refine wp_named' (fun W1 hW => ?_)
  have K1 : Keeps w2 W1 := by rw [hW]; ((repeat' (first | (with_reducible exact Keeps.refl _) | (with_reducible assumption) | (with_reducible refine Keeps.drewN ?_ _) | (with_reducible refine Keeps.drew ?_) | (with_reducible refine Keeps.alloc ?_ _) | (with_reducible refine Keeps.setCell ?_ ?_ _) | (with_reducible refine Keeps.trans ?_ (After.keeps _)) | (with_reducible refine Keeps.trans ?_ (by with_reducible assumption)) | go_size)); (first | done | fail))
  have HG : Has W1 w2.heap.size (gV [0, 0, 0, 0]) 53 := by rw [hW]; exact (Has.new w2 _ _).alloc _
  have HL : Has W1 (w2.heap.size + 1) (bV [false, false, false, false]) 54 := by rw [hW]; exact Has.new1 w2 _ _ _
  have G0 := G0.later K1
  have nGm : w2.heap.size ∉ [m, bb] := by
    obtain ⟨x, M⟩ := G0.mem
    simp only [List.mem_cons, List.not_mem_nil, or_false, not_or]; exact ⟨Has.ne HG M.hg (by decide), Has.ne HG M.hb (by decide)⟩
  have nLm : w2.heap.size + 1 ∉ [m, bb] := by
    obtain ⟨x, M⟩ := G0.mem
    simp only [List.mem_cons, List.not_mem_nil, or_false, not_or]; exact ⟨Has.ne HL M.hg (by decide), Has.ne HL M.hb (by decide)⟩
  have nGL : w2.heap.size ≠ w2.heap.size + 1 := by omega
  clear hW K1
  generalize w2.heap.size = tg at *
  go_wp2
  go_loopw [12, 13] (fun uv i wr => ∃ (q u T : Nat) (l L gs cs : List Int) (lv : List Bool) (cc : Int), q ≤ zs.length ∧ i = .int .i64 q ∧ uv = .int .i64 u ∧ GenAt w wr m bb R S n l L T gs cs lv u cc q ∧ Has wr tg (gV gs) 53 ∧ Has wr (tg + 1) (bV lv) 54) (fun _ i _ => zs.length - (intOf i).toNat)
  case atStart => exact ⟨0, 0, 0, _, _, _, _, _, 0, by omega, rfl, rfl, G0, HG, HL⟩
  case round =>
    obtain ⟨q, u, T, l, L, gs, cs, lv, cc, hq, rfl, rfl, G, HG, HL⟩ := hrel
    by_cases hlt : q < zs.length
    · obtain ⟨ab, off, rfl, hab, hc⟩ := HRd.out (by rintro rfl; simp at hlt)
      have c1 := hc q zs[q] (List.getElem?_eq_getElem hlt)
      rw [← G.keeps.cell hab] at c1
      clear hc
      generalize zs[q] = z at *
      have hb2 := mod_bd z 2 (by omega)
      obtain ⟨r2, hr2⟩ : ∃ r, z % 2 = r := ⟨_, rfl⟩
      rw [hr2] at hb2
      have HR2 := Lib.hid hr2
      clear hr2
      go_upto_region 17 with (first
        | (go_at_call 10; refine (number_exG _ _ _ (by omega) (by omega)).mono ?_; rintro e w' ⟨sl, rfl, hsl', rfl⟩))
      have hsn : sl < n := by omega
      rcases (show r2 = 0 ∨ r2 = 1 by omega) with rfl | rfl
      · go_upto_region 19 with (first
          | (go_at_call 10; refine (number_c _ _ _ (by omega) (by omega)).mono ?_; rintro e w' ⟨rfl, rfl⟩; rw [HR2.out])
          | (go_at_call 18; obtain ⟨x, M⟩ := G.mem; refine (rsSpare_c G.hR G.hS M G.st.ok).mono ?_; rintro e w9 ⟨v', rfl, hk, hrw⟩))
        rename Keeps wr w9 => hks
        rename Row _ _ _ _ _ => hrw
        have hrl : stList 1 (4 + n) n l = L := by first | exact G.st.list | (rename GenAt _ _ _ _ _ _ _ _ _ _ _ _ _ _ _ _ => G0; exact G.st.list)
        rw [hrl] at hrw
        clear hrl
        have G9 := G.later hks
        have HG9 := HG.keeps hks
        have HL9 := HL.keeps hks
        have hmz : m < wr.heap.size ∧ bb < wr.heap.size := by obtain ⟨x, M⟩ := G.mem; exact M.lt
        have hlen := G.used
        have hn4 := G.n4
        have hq100 : q + 1 ≤ 100 := by omega
        obtain ⟨ta, tcap, rfl, htc⟩ := hrw.form
        rcases L with _ | ⟨z, L'⟩
        · simp only [List.length_nil, Nat.zero_add] at hlen
          subst hlen
          have CE := Lib.hid (fun (y : World) (hk : Keeps w9 y) => (G9.later hk).dry q hq100)
          clear htc hrw
          go_wp2_with (go_at_call 19; refine (CE.out _ (Keeps.refl _)).mono ?_; rintro e w8 ⟨rfl, hu, G8⟩; have HG := HG9.upd hu nGm; have HL := HL9.upd hu nLm)
          go_roundw
          case rel => exact ⟨q + 1, u, T, l, [], gs, cs, lv, _, by omega, by go_num, rfl, G8, HG, HL⟩
          case measure => simp [intOf]; omega
        · obtain ⟨tb, rfl, htB, htl, htcell⟩ := htc (by simp [ivals])
          have ht0 := htcell 0 (.int .i64 z) (by simp [ivals])
          clear htcell htc hrw
          have hz := G9.st.lnk.items z (by simp)
          obtain ⟨zn, rfl⟩ := Int.eq_ofNat_of_zero_le hz.1
          have hzn : zn < n := by omega
          have hz4 : zn < 4 := by omega
          have hgl := G.glen
          have hcl := G.clen
          have hvl := G.vlen
          have hgb := G.gbd zn
          obtain ⟨gz, hgz⟩ : ∃ gz, gs.getD zn 0 = gz := ⟨_, rfl⟩
          have HGZ := Lib.hid hgz
          rw [hgz] at hgb
          clear hgz
          have CE : Hid (∀ y : World, Keeps w9 y → Calls Tryz.prog 19 #[.pointer (some ⟨R, 0, none⟩), .int .i64 q] y fun e w' => e = .returned (.tuple #[.int .i64 zn, .int .i64 (gz + 1), .bool true]) ∧ Upd [m, bb] y w' ∧ lv.getD zn false = false ∧
              ∃ l', GenAt w w' m bb R S n l' L' (T + 1) (gs.set zn (gz + 1)) (cs.set zn (clampI q)) (lv.set zn true) (u + 1) (cc + 5) (q + 1)) := Lib.hid (fun y hk => by
            rw [← HGZ.out]
            refine ((G9.later hk).create q hq100).mono ?_
            simp only [Int.toNat_natCast]
            rintro e w' ⟨h1, h2, -, -, h3, h4⟩
            exact ⟨h1, h2, h3, h4⟩)
          have hlL : ((ivals ((zn : Int) :: L')).length : Int) = n - u := by simp [ivals] at hlen ⊢; omega
          have hun : (u : Int) < n := by simp at hlen; omega
          have hun0 : (0 : Int) ≤ u := by omega
          generalize hlen9 : (ivals ((zn : Int) :: L')).length = len9 at *
          have hlp : (0 : Int) < len9 := by omega
          clear hlen hlen9
          go_upto_region 20 with (go_at_call 19; refine (CE.out _ (Keeps.refl _)).mono ?_; rintro e w8 ⟨rfl, hu, hlv, l8, G8⟩; have HG := HG9.upd hu nGm; have HL := HL9.upd hu nLm)
          have ht0 : w8.cell? ⟨tb, 0, none⟩ = some (.int .i64 zn) := by rw [← ht0]; exact hu.cell htl (by simp; omega)
          have hgx := HG.cellv (gV_at (i := zn) (by rw [hgl]; exact hz4))
          have hlx := HL.cellv (bV_at (i := zn) (by rw [hvl]; exact hz4))
          rw [hlv] at hlx
          have hz4' : (zn : Int) < 4 := by omega
          have hz0' : (0 : Int) ≤ (zn : Int) := by omega
          rw [HGZ.out] at hgx
          have HRt : Hid (∀ y : World, Keeps w8 y → Calls Tryz.prog 15 #[.pointer (some ⟨R, 0, none⟩), .int .i64 zn] y fun e w' => e = .returned (.agg #[.int .i64 (gz + 1), .int .i64 1, .int .i64 (clampI q), .int .i64 0]) ∧ Keeps y w') := Lib.hid (fun y hk => by
            have h9 := (G8.later hk).peekR hzn
            rw [getD_set_eq _ (by omega), getD_setB_eq _ (by omega), getD_set_eq _ (by omega)] at h9
            exact h9)
          clear hlv CE
          have tk : True := trivial
          rcases (show (q : Int) ≤ 3 ∨ 3 < (q : Int) by omega) with hq3 | hq3
          · have ecl : clampI q = q := by unfold clampI; split <;> split <;> omega
            rw [ecl] at HRt
            clear ecl
            go_upto_region 25 with (first
              | (go_at_call 15; have t2 := tk; clear tk; refine (HRt.out _ (Keeps.refl _)).mono ?_; rintro e w7 ⟨rfl, hk7⟩)
              | (go_at_call 15; clear t2; refine (HRt.out _ hk7).mono ?_; rintro e w6 ⟨rfl, hk6⟩))
            have hk76 := hk7.trans hk6
            have HG := HG.keeps hk76
            have HL := HL.keeps hk76
            have G8 := G8.later hk76
            have hgx6 := HG.cellv (gV_at (i := zn) (by rw [hgl]; exact hz4))
            have hlx6 := HL.cellv (bV_at (i := zn) (by rw [hvl]; exact hz4))
            have hfg := HG.frozen zn
            have hfl := HL.frozen zn
            have HG1 := (HG.set zn (.int .i64 (gz + 1))).congr (gV_set _ _ _)
            have HL1 := HL.far (p := ⟨tg, zn, none⟩) (by show tg + 1 ≠ tg; omega) (.int .i64 (gz + 1))
            go_wp2
            go_roundw
            case rel => exact ⟨q + 1, u + 1, T + 1, l8, L', _, _, _, _, by omega, by go_num, by congr 1, (G8.upd1 HG ((Upd.refl _ _).setCell (.inl (by simp)) _) (by decide) (by decide) (by decide) (by decide) (by omega)).upd1 HL1 ((Upd.refl _ _).setCell (.inl (by simp)) _) (by decide) (by decide) (by decide) (by decide) (by omega), HG1.far (by show tg ≠ tg + 1; omega) _, (HL1.set zn (.bool true)).congr (bV_set _ _ _)⟩
            case measure => simp [intOf]; omega
          · have ecl : clampI q = 3 := by unfold clampI; rw [if_neg (show ¬ (q : Int) < 0 by omega), if_pos hq3]
            rw [ecl] at HRt
            clear ecl
            go_upto_region 25 with (first
              | (go_at_call 15; have t2 := tk; clear tk; refine (HRt.out _ (Keeps.refl _)).mono ?_; rintro e w7 ⟨rfl, hk7⟩)
              | (go_at_call 15; clear t2; refine (HRt.out _ hk7).mono ?_; rintro e w6 ⟨rfl, hk6⟩))
            have hk76 := hk7.trans hk6
            have HG := HG.keeps hk76
            have HL := HL.keeps hk76
            have G8 := G8.later hk76
            have hgx6 := HG.cellv (gV_at (i := zn) (by rw [hgl]; exact hz4))
            have hlx6 := HL.cellv (bV_at (i := zn) (by rw [hvl]; exact hz4))
            have hfg := HG.frozen zn
            have hfl := HL.frozen zn
            have HG1 := (HG.set zn (.int .i64 (gz + 1))).congr (gV_set _ _ _)
            have HL1 := HL.far (p := ⟨tg, zn, none⟩) (by show tg + 1 ≠ tg; omega) (.int .i64 (gz + 1))
            go_wp2
            go_roundw
            case rel => exact ⟨q + 1, u + 1, T + 1, l8, L', _, _, _, _, by omega, by go_num, by congr 1, (G8.upd1 HG ((Upd.refl _ _).setCell (.inl (by simp)) _) (by decide) (by decide) (by decide) (by decide) (by omega)).upd1 HL1 ((Upd.refl _ _).setCell (.inl (by simp)) _) (by decide) (by decide) (by decide) (by decide) (by omega), HG1.far (by show tg ≠ tg + 1; omega) _, (HL1.set zn (.bool true)).congr (bV_set _ _ _)⟩
            case measure => simp [intOf]; omega
      · go_upto_region 27 with (first
          | (go_at_call 10; refine (number_c _ _ _ (by omega) (by omega)).mono ?_; rintro e w' ⟨rfl, rfl⟩; rw [HR2.out]))
        have hs4 : sl < 4 := by omega
        have hq100 : q + 1 ≤ 100 := by omega
        have hgx := HG.cellv (gV_at (i := sl) (by rw [G.glen]; exact hs4))
        have hlx := HL.cellv (bV_at (i := sl) (by rw [G.vlen]; exact hs4))
        have hs4' : (sl : Int) < 4 := by omega
        cases hv : lv.getD sl false with
        | false =>
          rw [hv] at hlx
          have CE := Lib.hid (fun (y : World) (hk : Keeps wr y) => (G.later hk).dead hsn hv hq100)
          have HG0 := HG
          have HL0 := HL
          clear hv
          go_region_held3 (fun y => y.cell? ⟨tg, sl, none⟩ = some (.int .i64 (gs.getD sl 0)) ∧ y.cell? ⟨tg + 1, sl, none⟩ = some (.bool false)) (first | exact ⟨hgx, hlx⟩)
            ((go_at_call 20; refine (CE.out _ (by ((repeat' (first | (with_reducible exact Keeps.refl _) | (with_reducible assumption) | (with_reducible refine Keeps.drewN ?_ _) | (with_reducible refine Keeps.drew ?_) | (with_reducible refine Keeps.alloc ?_ _) | (with_reducible refine Keeps.setCell ?_ ?_ _) | (with_reducible refine Keeps.trans ?_ (After.keeps _)) | (with_reducible refine Keeps.trans ?_ (by with_reducible assumption)) | go_size)); (first | done | fail)))).mono ?_; rintro e w9 ⟨rfl, hu, G9⟩; have HG := (HG0.drew).upd hu nGm; have HL := (HL0.drew).upd hu nLm; have hgx : w9.cell? ⟨tg, sl, none⟩ = some (.int .i64 (gs.getD sl 0)) := (HG.cell sl).trans ((HG0.cell sl).symm.trans hgx); have hlx : w9.cell? ⟨tg + 1, sl, none⟩ = some (.bool false) := (HL.cell sl).trans ((HL0.cell sl).symm.trans hlx)))
          go_wp2
          go_roundw
          case rel => exact ⟨q + 1, u, T, l, L, gs, cs, lv, _, by omega, by go_num, rfl, G9, HG, HL⟩
          case measure => simp [intOf]; omega
        | true =>
          rw [hv] at hlx
          have CE := Lib.hid (fun (y : World) (hk : Keeps wr y) => (G.later hk).alive hsn hv hq100)
          have HG0 := HG
          have HL0 := HL
          have hcu := G.used
          have hn4 := G.n4
          clear hv
          go_region_held3 (fun y => y.cell? ⟨tg, sl, none⟩ = some (.int .i64 (gs.getD sl 0)) ∧ y.cell? ⟨tg + 1, sl, none⟩ = some (.bool true)) (first | exact ⟨hgx, hlx⟩)
            ((go_at_call 20; refine (CE.out _ (by ((repeat' (first | (with_reducible exact Keeps.refl _) | (with_reducible assumption) | (with_reducible refine Keeps.drewN ?_ _) | (with_reducible refine Keeps.drew ?_) | (with_reducible refine Keeps.alloc ?_ _) | (with_reducible refine Keeps.setCell ?_ ?_ _) | (with_reducible refine Keeps.trans ?_ (After.keeps _)) | (with_reducible refine Keeps.trans ?_ (by with_reducible assumption)) | go_size)); (first | done | fail)))).mono ?_; rintro e w9 ⟨rfl, hu, hu1, l9, G9⟩; have HG := (HG0.drew).upd hu nGm; have HL := (HL0.drew).upd hu nLm; have hgx : w9.cell? ⟨tg, sl, none⟩ = some (.int .i64 (gs.getD sl 0)) := (HG.cell sl).trans ((HG0.cell sl).symm.trans hgx); have hlx : w9.cell? ⟨tg + 1, sl, none⟩ = some (.bool true) := (HL.cell sl).trans ((HL0.cell sl).symm.trans hlx)))
          have hlf := HL.frozen
          go_wp2
          go_roundw
          case rel => exact ⟨q + 1, u - 1, T + 1, l9, _, gs, _, _, _, by omega, by go_num, by congr 1; omega, G9.upd1 HL (by (repeat (first | (with_reducible exact Upd.refl _ _) | (with_reducible assumption) | (with_reducible refine Upd.setCell ?_ (by first | (left; simp; done) | (right; go_size)) _) | (with_reducible refine Upd.alloc ?_ _) | (with_reducible refine Upd.drewN ?_ _) | (with_reducible refine Upd.drew ?_)))) (by decide) (by decide) (by decide) (by decide) (by omega), HG.far (by omega) _, (HL.set sl (.bool false)).congr (bV_set _ _ _)⟩
          case measure => simp [intOf]; omega
    · obtain rfl : q = zs.length := by omega
      have hnl : ¬ (zs.length : Int) < zs.length := by omega
      have hn4 := G.n4
      go_wp2
      go_loopw [19] (fun sv w5 => ∃ (s : Nat) (c5 : Int), s ≤ n ∧ sv = .int .i64 s ∧ GenAt w w5 m bb R S n l L T gs cs lv u c5 (zs.length + s) ∧ Has w5 tg (gV gs) 53 ∧ Has w5 (tg + 1) (bV lv) 54) (fun sv _ => n - (intOf sv).toNat)
      case atStart => exact ⟨0, cc, by omega, rfl, G, HG, HL⟩
      case round =>
        obtain ⟨s, c5, hs, rfl, G, HG, HL⟩ := hrel
        by_cases hlt2 : s < n
        · have hlt3 : (s : Int) < n := by omega
          have hs4 : s < 4 := by omega
          have hs4' : (s : Int) < 4 := by omega
          have hs0' : (0 : Int) ≤ (s : Int) := by omega
          have hgx := HG.cellv (gV_at (i := s) (by rw [G.glen]; exact hs4))
          have hlx := HL.cellv (bV_at (i := s) (by rw [G.vlen]; exact hs4))
          have hj9 : zs.length + s + 1 ≤ 100 := by omega
          have CE := Lib.hid (G.looks hlt2 hj9)
          have HG0 := HG
          have HL0 := HL
          have hlv : Hid (lv.getD s false = lv.getD s false) := Lib.hid rfl
          go_upto_region 36 with (go_at_call 12; refine CE.out.mono ?_; rintro e w8 ⟨y, rfl, hk, hy, hstep⟩; have HS := Lib.hid hstep; clear hstep; have HG := HG0.keeps hk; have HL := HL0.keeps hk)
          have hlx := HL.cellv (bV_at (i := s) (by rw [G.vlen]; exact hs4))
          have HL8 := HL
          have hyg : tg ≠ y := by have := HG0.lt; omega
          have hyl : tg + 1 ≠ y := by have := HL0.lt; omega
          have nG3 : tg ∉ [y, m, bb] := by rw [List.mem_cons, not_or]; exact ⟨hyg, nGm⟩
          have nL3 : tg + 1 ∉ [y, m, bb] := by rw [List.mem_cons, not_or]; exact ⟨hyl, nLm⟩
          cases hv : lv.getD s false with
          | true =>
            rw [hv] at hlx HS
            clear hv hlv
            go_region_held3 (fun z => z.cell? ⟨tg + 1, s, none⟩ = some (.bool true)) (first | exact hlx)
              (first
                | (go_at_call 21; refine (HS.out _ (by ((repeat' (first | (with_reducible exact Keeps.refl _) | (with_reducible assumption) | (with_reducible refine Keeps.drewN ?_ _) | (with_reducible refine Keeps.drew ?_) | (with_reducible refine Keeps.alloc ?_ _) | (with_reducible refine Keeps.setCell ?_ ?_ _) | (with_reducible refine Keeps.trans ?_ (After.keeps _)) | (with_reducible refine Keeps.trans ?_ (by with_reducible assumption)) | go_size)); (first | done | fail)))).mono ?_; rintro e w9 ⟨rfl, hu, G9, ofs, HX⟩; have HG := (HG.drew).upd hu nG3; have HL := (HL.drew).upd hu nL3; have hlx := (HL.cell s).trans ((HL8.cell s).symm.trans hlx))
                | (go_at_call 22; refine (lkDone_c (o := none) (HX.keeps (by ((repeat' (first | (with_reducible exact Keeps.refl _) | (with_reducible assumption) | (with_reducible refine Keeps.drewN ?_ _) | (with_reducible refine Keeps.drew ?_) | (with_reducible refine Keeps.alloc ?_ _) | (with_reducible refine Keeps.setCell ?_ ?_ _) | (with_reducible refine Keeps.trans ?_ (After.keeps _)) | (with_reducible refine Keeps.trans ?_ (by with_reducible assumption)) | go_size)); (first | done | fail))))).mono ?_; rintro e w' ⟨rfl, rfl⟩)
                | (go_at_call 23; refine (lkCode_c (HX.keeps (by ((repeat' (first | (with_reducible exact Keeps.refl _) | (with_reducible assumption) | (with_reducible refine Keeps.drewN ?_ _) | (with_reducible refine Keeps.drew ?_) | (with_reducible refine Keeps.alloc ?_ _) | (with_reducible refine Keeps.setCell ?_ ?_ _) | (with_reducible refine Keeps.trans ?_ (After.keeps _)) | (with_reducible refine Keeps.trans ?_ (by with_reducible assumption)) | go_size)); (first | done | fail))))).mono ?_; rintro e w' ⟨rfl, rfl⟩))
            go_wp2
            go_roundw
            case rel => exact ⟨s + 1, c5 + 1, by omega, by go_num, G9, HG.keeps (by ((repeat' (first | (with_reducible exact Keeps.refl _) | (with_reducible assumption) | (with_reducible refine Keeps.drewN ?_ _) | (with_reducible refine Keeps.drew ?_) | (with_reducible refine Keeps.alloc ?_ _) | (with_reducible refine Keeps.setCell ?_ ?_ _) | (with_reducible refine Keeps.trans ?_ (After.keeps _)) | (with_reducible refine Keeps.trans ?_ (by with_reducible assumption)) | go_size)); (first | done | fail))), HL.keeps (by ((repeat' (first | (with_reducible exact Keeps.refl _) | (with_reducible assumption) | (with_reducible refine Keeps.drewN ?_ _) | (with_reducible refine Keeps.drew ?_) | (with_reducible refine Keeps.alloc ?_ _) | (with_reducible refine Keeps.setCell ?_ ?_ _) | (with_reducible refine Keeps.trans ?_ (After.keeps _)) | (with_reducible refine Keeps.trans ?_ (by with_reducible assumption)) | go_size)); (first | done | fail)))⟩
            case measure => simp [intOf]; omega
          | false =>
            rw [hv] at hlx HS
            clear hv hlv
            go_region_held3 (fun z => z.cell? ⟨tg + 1, s, none⟩ = some (.bool false)) (first | exact hlx)
              (first
                | (go_at_call 21; refine (HS.out _ (by ((repeat' (first | (with_reducible exact Keeps.refl _) | (with_reducible assumption) | (with_reducible refine Keeps.drewN ?_ _) | (with_reducible refine Keeps.drew ?_) | (with_reducible refine Keeps.alloc ?_ _) | (with_reducible refine Keeps.setCell ?_ ?_ _) | (with_reducible refine Keeps.trans ?_ (After.keeps _)) | (with_reducible refine Keeps.trans ?_ (by with_reducible assumption)) | go_size)); (first | done | fail)))).mono ?_; rintro e w9 ⟨rfl, hu, G9, ofs, HX⟩; have HG := (HG.drew).upd hu nG3; have HL := (HL.drew).upd hu nL3; have hlx := (HL.cell s).trans ((HL8.cell s).symm.trans hlx))
                | (go_at_call 22; refine (lkDone_c (o := none) (HX.keeps (by ((repeat' (first | (with_reducible exact Keeps.refl _) | (with_reducible assumption) | (with_reducible refine Keeps.drewN ?_ _) | (with_reducible refine Keeps.drew ?_) | (with_reducible refine Keeps.alloc ?_ _) | (with_reducible refine Keeps.setCell ?_ ?_ _) | (with_reducible refine Keeps.trans ?_ (After.keeps _)) | (with_reducible refine Keeps.trans ?_ (by with_reducible assumption)) | go_size)); (first | done | fail))))).mono ?_; rintro e w' ⟨rfl, rfl⟩)
                | (go_at_call 23; refine (lkCode_c (HX.keeps (by ((repeat' (first | (with_reducible exact Keeps.refl _) | (with_reducible assumption) | (with_reducible refine Keeps.drewN ?_ _) | (with_reducible refine Keeps.drew ?_) | (with_reducible refine Keeps.alloc ?_ _) | (with_reducible refine Keeps.setCell ?_ ?_ _) | (with_reducible refine Keeps.trans ?_ (After.keeps _)) | (with_reducible refine Keeps.trans ?_ (by with_reducible assumption)) | go_size)); (first | done | fail))))).mono ?_; rintro e w' ⟨rfl, rfl⟩))
            go_wp2
            go_roundw
            case rel => exact ⟨s + 1, c5 + 1, by omega, by go_num, G9, HG.keeps (by ((repeat' (first | (with_reducible exact Keeps.refl _) | (with_reducible assumption) | (with_reducible refine Keeps.drewN ?_ _) | (with_reducible refine Keeps.drew ?_) | (with_reducible refine Keeps.alloc ?_ _) | (with_reducible refine Keeps.setCell ?_ ?_ _) | (with_reducible refine Keeps.trans ?_ (After.keeps _)) | (with_reducible refine Keeps.trans ?_ (by with_reducible assumption)) | go_size)); (first | done | fail))), HL.keeps (by ((repeat' (first | (with_reducible exact Keeps.refl _) | (with_reducible assumption) | (with_reducible refine Keeps.drewN ?_ _) | (with_reducible refine Keeps.drew ?_) | (with_reducible refine Keeps.alloc ?_ _) | (with_reducible refine Keeps.setCell ?_ ?_ _) | (with_reducible refine Keeps.trans ?_ (After.keeps _)) | (with_reducible refine Keeps.trans ?_ (by with_reducible assumption)) | go_size)); (first | done | fail)))⟩
            case measure => simp [intOf]; omega
        · obtain rfl : s = n := by omega
          have hnn : ¬ (s : Int) < s := by omega
          go_wp2
          go_ret
          exact ⟨rfl, G.keeps⟩
theorem rootsGens_c (nn : Int) (v : Value) (zs : List Int) (w : World) (hr : Reads .i64 w v zs) : Calls Tryz.prog 4 #[.int .i64 nn, v] w fun e w' => e = .returned (.bool true) ∧ Keeps w w' := by
  by_cases hl : zs.length ≤ 60
  · have b1 := mod_bd nn 4 (by omega)
    obtain ⟨k, hk⟩ := Int.eq_ofNat_of_zero_le (show 0 ≤ 1 + nn % 4 by omega)
    exact rootsGens_core nn k v zs w hr hl hk (by omega) (by omega)
  · obtain ⟨a, cap, rfl, hrr⟩ := hr
    clear hrr
    go_enter Tryz.func4, Tryz.ntmps4
    go_wp2_with (go_at_call 6; refine (rootsFirst_c _).mono ?_; rintro e w' ⟨rfl, hk0⟩)
    go_ret
    exact ⟨rfl, hk0⟩
end Go.Proofs.YtaecapjicphdkaaGreat
