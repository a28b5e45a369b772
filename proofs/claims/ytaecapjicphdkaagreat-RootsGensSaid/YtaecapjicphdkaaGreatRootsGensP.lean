/- RootsGens: what stands from round to round; each way of a round. -/
import Derived.Test.YtaecapjicphdkaaGreatRootsS
namespace Go.Proofs.YtaecapjicphdkaaGreat
set_option linter.unusedVariables false
set_option linter.unusedSimpArgs false
open Go Go.RowKit
set_option maxRecDepth 100000
set_option maxHeartbeats 4000000

theorem rootI_gen {g mk c : Int} (h0 : 0 ≤ g) (h1 : g ≤ 1000) (m : mk = 0 ∨ mk = 1) (c0 : 0 ≤ c) (c3 : c ≤ 3) : rootI g mk c 0 = g * 4294967296 + mk * 65536 + c * 4096 := by
  unfold rootI; rw [if_pos (rootB_true.2 (by omega))]; omega
theorem rootI_parts {g mk c : Int} (h0 : 0 ≤ g) (h1 : g ≤ 1000) (m : mk = 0 ∨ mk = 1) (c0 : 0 ≤ c) (c3 : c ≤ 3) :
    rootI g mk c 0 / 4294967296 = g ∧ rootI g mk c 0 / 65536 % 65536 = mk ∧ rootI g mk c 0 / 4096 % 16 = c ∧ 0 ≤ rootI g mk c 0 ∧ rootI g mk c 0 < 18446744073709551616 := by
  rw [rootI_gen h0 h1 m c0 c3]
  rcases m with rfl | rfl <;> omega
theorem rootI_live {g c : Int} (h0 : 0 ≤ g) (h1 : g ≤ 1000) (c0 : 0 ≤ c) (c3 : c ≤ 3) : liveW (rootI g 1 c 0) g = true := by
  obtain ⟨e1, e2, -⟩ := rootI_parts h0 h1 (.inr rfl) c0 c3
  unfold liveW; rw [e1, e2]; simp [liveB]
theorem rootI_dead {g c x : Int} (h0 : 0 ≤ g) (h1 : g ≤ 1000) (c0 : 0 ≤ c) (c3 : c ≤ 3) : liveW (rootI g 0 c 0) x = false := by
  obtain ⟨e1, e2, -⟩ := rootI_parts h0 h1 (.inl rfl) c0 c3
  unfold liveW; rw [e1, e2]; simp [liveB]
def mkI (b : Bool) : Int := if b then 1 else 0
/-- What stands: gs the generations, lv who lives, cs the classes, u so many lives. -/
structure GenAt (w wr : World) (m bb R S n : Nat) (l L : List Int) (T : Nat) (gs cs : List Int) (lv : List Bool) (u : Nat) (cc : Int) (j : Nat) : Prop where
  hR : Has wr R (rootsOf m 1 1 8 n 0 1 S) 109
  hS : Has wr S (stackOf m (1 : Nat) ((4 + n : Nat) : Int) n) 143
  mem : ∃ x, Mem wr m bb (13 + 2 * n) l cc x
  st : StRep 1 (4 + n) n (13 + 2 * n) l T L
  n1 : 1 ≤ n
  n4 : n ≤ 4
  glen : gs.length = 4
  clen : cs.length = 4
  vlen : lv.length = 4
  root : ∀ i : Nat, i < n → l.getD (4 + i) 0 = rootI (gs.getD i 0) (mkI (lv.getD i false)) (cs.getD i 0) 0
  gbd : ∀ i : Nat, 0 ≤ gs.getD i 0 ∧ gs.getD i 0 ≤ j
  cbd : ∀ i : Nat, 0 ≤ cs.getD i 0 ∧ cs.getD i 0 ≤ 3
  spare : ∀ i : Nat, i < n → ((i : Int) ∈ L ↔ lv.getD i false = false)
  used : L.length + u = n
  tb : T ≤ 2 * j
  cb : 0 ≤ cc ∧ cc ≤ 10 * j
  jb : j ≤ 100
  keeps : Keeps w wr
  hm : w.heap.size ≤ m
  hb : w.heap.size ≤ bb
theorem getD_setB_ne {l : List Bool} {i j : Nat} (v : Bool) (h : i ≠ j) : (l.set i v).getD j false = l.getD j false := by
  rw [List.getD_eq_getElem?_getD, List.getElem?_set_ne h, ← List.getD_eq_getElem?_getD]
theorem getD_setB_eq {l : List Bool} {i : Nat} (v : Bool) (h : i < l.length) : (l.set i v).getD i false = v := by
  rw [List.getD_eq_getElem?_getD, List.getElem?_set_self h]; rfl
section
variable {w wr : World} {m bb R S n T u j : Nat} {l L gs cs : List Int} {lv : List Bool} {cc z : Int}
theorem GenAt.later {w2 : World} (h : GenAt w wr m bb R S n l L T gs cs lv u cc j) (hk : Keeps wr w2) : GenAt w w2 m bb R S n l L T gs cs lv u cc j :=
  ⟨h.hR.keeps hk, h.hS.keeps hk, by obtain ⟨x, M⟩ := h.mem; exact ⟨x, M.keeps hk⟩, h.st, h.n1, h.n4, h.glen, h.clen, h.vlen, h.root, h.gbd, h.cbd, h.spare, h.used, h.tb, h.cb, h.jb, h.keeps.trans hk, h.hm, h.hb⟩
theorem GenAt.next (h : GenAt w wr m bb R S n l L T gs cs lv u cc j) (hj : j + 1 ≤ 100) : GenAt w wr m bb R S n l L T gs cs lv u cc (j + 1) :=
  ⟨h.hR, h.hS, h.mem, h.st, h.n1, h.n4, h.glen, h.clen, h.vlen, h.root, fun i => by have := h.gbd i; omega, h.cbd, h.spare, h.used, by have := h.tb; omega, by have := h.cb; omega, hj, h.keeps, h.hm, h.hb⟩
theorem GenAt.create (h : GenAt w wr m bb R S n l (z :: L) T gs cs lv u cc j) (class_ : Int) (hj : j + 1 ≤ 100) :
    Calls Tryz.prog 19 #[.pointer (some ⟨R, 0, none⟩), .int .i64 class_] wr fun e w' => e = .returned (.tuple #[.int .i64 z, .int .i64 (gs.getD z.toNat 0 + 1), .bool true]) ∧ Upd [m, bb] wr w' ∧ 0 ≤ z ∧ z < n ∧ lv.getD z.toNat false = false ∧
      ∃ l', GenAt w w' m bb R S n l' L (T + 1) (gs.set z.toNat (gs.getD z.toNat 0 + 1)) (cs.set z.toNat (clampI class_)) (lv.set z.toNat true) (u + 1) (cc + 5) (j + 1) := by
  obtain ⟨x, M⟩ := h.mem
  have hz := h.st.lnk.items z (by simp)
  have hn4 := h.n4
  have hgl := h.glen
  have hcl := h.clen
  have hvl := h.vlen
  obtain ⟨zn, rfl⟩ := Int.eq_ofNat_of_zero_le hz.1
  have hzn : zn < n := by omega
  have hlv : lv.getD zn false = false := (h.spare zn hzn).1 (by simp)
  have hg := h.gbd zn
  have hc := h.cbd zn
  have hjb := h.jb
  have hrt := h.root zn hzn
  rw [hlv] at hrt
  have hp := rootI_parts (g := gs.getD zn 0) (mk := 0) (c := cs.getD zn 0) hg.1 (by omega) (.inl rfl) hc.1 hc.2
  have hge : genN (l.getD (4 + (zn : Int).toNat) 0 / 4294967296) = gs.getD zn 0 + 1 := by
    rw [Int.toNat_natCast, hrt]
    show genN (rootI _ 0 _ 0 / 4294967296) = _
    rw [hp.1]; unfold genN; rw [if_pos (by omega)]
  have htb := h.tb
  have hcb := h.cb
  refine (creates_some class_ h.n1 h.n4 (by omega) h.hR h.hS M h.st (by omega)).mono ?_
  rintro e w' ⟨rfl, hu, HR, HS, l', x', M', St', hoth⟩
  rw [hge] at M' ⊢
  rw [Int.toNat_natCast] at M' ⊢
  have hcla : 0 ≤ clampI class_ ∧ clampI class_ ≤ 3 := by unfold clampI; split <;> split <;> omega
  have hrb := rootI_bd (gs.getD zn 0 + 1) 1 (clampI class_) 0
  have hnl : 4 + zn < l'.length := by rw [St'.ok.len]; omega
  refine ⟨rfl, hu, hz.1, hz.2, hlv, _, HR, HS, ⟨x', M'⟩, St'.out (by omega) (by omega) hrb.1 hrb.2, h.n1, h.n4, by rw [List.length_set]; exact hgl, by rw [List.length_set]; exact hcl, by rw [List.length_set]; exact hvl, fun i hi => ?_, fun i => ?_, fun i => ?_, fun i hi => ?_, ?_, by omega, by omega, hj, h.keeps.upd hu (by simp; exact ⟨h.hm, h.hb⟩), h.hm, h.hb⟩
  · by_cases e : i = zn
    · subst e
      rw [getD_set_eq _ hnl, getD_set_eq _ (by omega), getD_set_eq _ (by omega), getD_setB_eq _ (by omega)]; rfl
    · rw [getD_set_ne _ (by omega), getD_set_ne _ (Ne.symm e), getD_set_ne _ (Ne.symm e), getD_setB_ne _ (Ne.symm e), hoth _ (by omega)]
      exact h.root i hi
  · by_cases e : i = zn
    · subst e
      by_cases hi : i < gs.length
      · rw [getD_set_eq _ hi]; omega
      · omega
    · rw [getD_set_ne _ (Ne.symm e)]; have := h.gbd i; omega
  · by_cases e : i = zn
    · subst e
      rw [getD_set_eq _ (by omega)]; exact hcla
    · rw [getD_set_ne _ (Ne.symm e)]; exact h.cbd i
  · by_cases e : i = zn
    · subst e
      rw [getD_setB_eq _ (by omega)]
      have hnd := h.st.nodup
      rw [List.nodup_cons] at hnd
      simp [hnd.1]
    · rw [getD_setB_ne _ (Ne.symm e), ← h.spare i hi, List.mem_cons]
      constructor
      · intro h; exact .inr h
      · rintro (h | h)
        · omega
        · exact h
  · have := h.used
    simp at this
    omega
theorem GenAt.dry (h : GenAt w wr m bb R S n l [] T gs cs lv u cc j) (class_ : Int) (hj : j + 1 ≤ 100) :
    Calls Tryz.prog 19 #[.pointer (some ⟨R, 0, none⟩), .int .i64 class_] wr fun e w' => e = .returned (.tuple #[.int .i64 0, .int .i64 0, .bool false]) ∧ Upd [m, bb] wr w' ∧ GenAt w w' m bb R S n l [] T gs cs lv u (cc + 1) (j + 1) := by
  obtain ⟨x, M⟩ := h.mem
  have hcb := h.cb
  have hjb := h.jb
  refine (creates_none class_ h.n1 h.n4 h.hR h.hS M h.st (by omega)).mono ?_
  rintro e w' ⟨rfl, hu, HR, HS, x', M'⟩
  exact ⟨rfl, hu, HR, HS, ⟨x', M'⟩, h.st, h.n1, h.n4, h.glen, h.clen, h.vlen, h.root, fun i => by have := h.gbd i; omega, h.cbd, h.spare, h.used, by have := h.tb; omega, by omega, hj, h.keeps.upd hu (by simp; exact ⟨h.hm, h.hb⟩), h.hm, h.hb⟩
theorem GenAt.liveEq (h : GenAt w wr m bb R S n l L T gs cs lv u cc j) {sl : Nat} (hsl : sl < n) : liveW (l.getD (4 + sl) 0) (gs.getD sl 0) = lv.getD sl false := by
  have hg := h.gbd sl
  have hc := h.cbd sl
  have hjb := h.jb
  rw [h.root sl hsl]
  cases lv.getD sl false with
  | true => exact rootI_live hg.1 (by omega) hc.1 hc.2
  | false => exact rootI_dead hg.1 (by omega) hc.1 hc.2
theorem GenAt.dead (h : GenAt w wr m bb R S n l L T gs cs lv u cc j) {sl : Nat} (hsl : sl < n) (hv : lv.getD sl false = false) (hj : j + 1 ≤ 100) :
    Calls Tryz.prog 20 #[.pointer (some ⟨R, 0, none⟩), .int .i64 sl, .int .i64 (gs.getD sl 0)] wr fun e w' => e = .returned (.bool false) ∧ Upd [m, bb] wr w' ∧ GenAt w w' m bb R S n l L T gs cs lv u (cc + 1) (j + 1) := by
  obtain ⟨x, M⟩ := h.mem
  have hcb := h.cb
  have hjb := h.jb
  refine (ends_dead h.n1 h.n4 hsl h.hR M h.st (by rw [h.liveEq hsl]; exact hv) (by omega)).mono ?_
  rintro e w' ⟨rfl, hu, HR, x', M'⟩
  have hS := h.hS.upd hu (by simp only [List.mem_cons, List.not_mem_nil, or_false, not_or]; exact ⟨Has.ne h.hS M.hg (by decide), Has.ne h.hS M.hb (by decide)⟩)
  exact ⟨rfl, hu, HR, hS, ⟨x', M'⟩, h.st, h.n1, h.n4, h.glen, h.clen, h.vlen, h.root, fun i => by have := h.gbd i; omega, h.cbd, h.spare, h.used, by have := h.tb; omega, by omega, hj, h.keeps.upd hu (by simp; exact ⟨h.hm, h.hb⟩), h.hm, h.hb⟩
theorem GenAt.alive (h : GenAt w wr m bb R S n l L T gs cs lv u cc j) {sl : Nat} (hsl : sl < n) (hv : lv.getD sl false = true) (hj : j + 1 ≤ 100) :
    Calls Tryz.prog 20 #[.pointer (some ⟨R, 0, none⟩), .int .i64 sl, .int .i64 (gs.getD sl 0)] wr fun e w' => e = .returned (.bool true) ∧ Upd [m, bb] wr w' ∧ 1 ≤ u ∧
      ∃ l', GenAt w w' m bb R S n l' ((sl : Int) :: L) (T + 1) gs (cs.set sl 0) (lv.set sl false) (u - 1) (cc + 5) (j + 1) := by
  obtain ⟨x, M⟩ := h.mem
  have hcb := h.cb
  have hjb := h.jb
  have htb := h.tb
  have hn4 := h.n4
  have hgl := h.glen
  have hcl := h.clen
  have hvl := h.vlen
  have hg := h.gbd sl
  have hc := h.cbd sl
  have hnL : (sl : Int) ∉ L := fun hm => by rw [(h.spare sl hsl).1 hm] at hv; cases hv
  have hrt := h.root sl hsl
  rw [hv] at hrt
  have hp := rootI_parts (g := gs.getD sl 0) (mk := 1) (c := cs.getD sl 0) hg.1 (by omega) (.inr rfl) hc.1 hc.2
  refine (ends_live h.n1 h.n4 hsl h.hR h.hS M h.st (by omega) hnL (by rw [h.liveEq hsl]; exact hv) (by omega)).mono ?_
  rintro e w' ⟨rfl, hu, HR, HS, l', x', M', St', hat, hoth⟩
  have hlen := St'.len
  have hus := h.used
  simp only [List.length_cons] at hlen
  have hu1 : 1 ≤ u := by omega
  refine ⟨rfl, hu, hu1, l', HR, HS, ⟨x', M'⟩, St', h.n1, h.n4, hgl, by rw [List.length_set]; exact hcl, by rw [List.length_set]; exact hvl, fun i hi => ?_, fun i => by have := h.gbd i; omega, fun i => ?_, fun i hi => ?_, ?_, by omega, by omega, hj, h.keeps.upd hu (by simp; exact ⟨h.hm, h.hb⟩), h.hm, h.hb⟩
  · by_cases e : i = sl
    · subst e
      rw [hat, hrt, getD_set_eq _ (by omega), getD_setB_eq _ (by omega)]
      show rootI (rootI _ 1 _ 0 / 4294967296) 0 0 0 = _
      rw [hp.1]; rfl
    · rw [hoth i hi e, getD_set_ne _ (Ne.symm e), getD_setB_ne _ (Ne.symm e)]
      exact h.root i hi
  · by_cases e : i = sl
    · subst e
      rw [getD_set_eq _ (by omega)]; omega
    · rw [getD_set_ne _ (Ne.symm e)]; exact h.cbd i
  · by_cases e : i = sl
    · subst e
      rw [getD_setB_eq _ (by omega)]
      simp
    · rw [getD_setB_ne _ (Ne.symm e), ← h.spare i hi, List.mem_cons]
      constructor
      · rintro (h | h)
        · omega
        · exact h
      · intro h; exact .inr h
  · simp; omega
end
end Go.Proofs.YtaecapjicphdkaaGreat
