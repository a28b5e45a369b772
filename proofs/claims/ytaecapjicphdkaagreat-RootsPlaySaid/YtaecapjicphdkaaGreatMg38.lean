/- RootsPlay's goes, walked: an End goes on. -/
import Derived.Test.YtaecapjicphdkaaGreatMg36
import Derived.Test.YtaecapjicphdkaaGreatMg18
import Derived.Deep.RegionHeld3
import Derived.Deep.RegionLaw
import Derived.Deep.QuietTactic
import Derived.BigQuiet
namespace Go.Proofs.YtaecapjicphdkaaGreat
set_option linter.unusedVariables false
set_option linter.unusedSimpArgs false
open Go Go.RowKit
set_option maxRecDepth 100000
set_option maxHeartbeats 4000000

section
variable {w wr w' : World} {m b R S W g gb Sp hb n : Nat} {l : List Int} {cc C : Int} {H : List Value} {cs : List HLoc} {ws : List HWs} {i : Nat} {c : HLoc} {k : HWs} {slot gen : Int}
theorem HA.bothE {s' : En} {l' : List Int} {f f2 : List Nat} {y x : Nat} (h : HA w wr m b R S W g gb Sp hb n l' l' (cc + 1) (cc + 1) H (cs.set i ⟨y :: f, x :: f2, c.h⟩) ((hks ws).set i ⟨.en slot gen s', .en slot gen s', k.has⟩)) (hc : cs[i]? = some c) (hk : ws[i]? = some k) :
    (f = [] ∧ EnRep wr y R slot gen s') ∧ f2 = [] ∧ REnRep wr x W slot gen s' := by
  have hl := (List.getElem?_eq_some_iff.1 hc).1
  have hl2 : i < (hks ws).length := by simp [hks]; exact (List.getElem?_eq_some_iff.1 hk).1
  obtain ⟨pm, rm, -⟩ := h.gang.rep i _ _ (List.getElem?_set_self hl) (List.getElem?_set_self hl2)
  obtain ⟨y', ep, hp⟩ := pm
  obtain ⟨x', ex, hx⟩ := rm
  dsimp only at ep ex
  cases ep; cases ex
  exact ⟨⟨rfl, hp⟩, rfl, hx⟩
theorem goes_en (v : Int) {s : En} (h : HA w wr m b R S W g gb Sp hb n l l cc cc H cs (hks ws)) (ti : HTies H cs ws) (A : HAll n C l ws) (hcc : cc ≤ C) (hC : C ≤ 1000) (hc : cs[i]? = some c) (hk : ws[i]? = some k) (hmd : k.md = .en slot gen s) (hi4 : i < 4) (n1 : 1 ≤ n) (n4 : n ≤ 4) :
    Calls Tryz.prog 24 #[.pointer (some ⟨hb, 0, none⟩), .pointer (some ⟨R, 0, none⟩), .pointer (some ⟨W, 0, none⟩), .int .i64 i, .int .i64 v] wr fun e w' => e = .returned (.bool true) ∧ HInv w w' m b R S W g gb Sp hb n (C + 1) := by
  have hks := hks_at hk
  have P := h.gang.rep i c _ hc hks
  have pm := P.md
  have rm := P.rmd
  have rH := P.has
  dsimp only at pm rm rH
  rw [hmd] at pm rm
  obtain ⟨y, ep, -⟩ := pm
  obtain ⟨x, ex, -⟩ := rm
  have hpp : c.p.head? = some y := by rw [ep]; rfl
  have hxx : c.x.head? = some x := by rw [ex]; rfl
  obtain ⟨mo, hit, hln⟩ := A.md i k hk
  rw [hmd] at mo
  obtain ⟨⟨s0, s1⟩, I, h3, hcode⟩ := mo
  have T := ti i c k hi4 hc hk
  obtain ⟨ah, caph, hvh, -⟩ := rH.reads
  have cn : Hid (H.toArray[i]? = some (.pointer none)) := Lib.hid (by have := T.p 0 (by omega); rw [hmd] at this; simpa [hkind] using this)
  have cp : Hid (H.toArray[4 + i]? = some (.pointer (some ⟨y, 0, none⟩))) := Lib.hid (by have := T.p 1 (by omega); rw [hmd, hpp] at this; simpa [hkind, optr] using this)
  have cx : Hid (H.toArray[20 + i]? = some (.pointer (some ⟨x, 0, none⟩))) := Lib.hid (by have := T.x 1 (by omega) (by rw [hmd]; rfl); rw [hxx] at this; simpa [optr] using this)
  have cH : Hid (H.toArray[32 + i]? = some (.slice ah k.has.length caph)) := Lib.hid (by have := T.h; rw [hvh] at this; simpa using this)
  have hh := h.hands
  have c0 := hh.cellv cn.out
  have c1 := hh.cellv cp.out
  have c2 := hh.cellv cx.out
  have i0 : (0 : Int) ≤ (i : Int) := by omega
  have i4 : (i : Int) < 4 := by omega
  -- both accesses
  obtain ⟨s', hs'⟩ : ∃ s', enStep (4 + slot.toNat) gen l s = s' := ⟨_, rfl⟩
  obtain ⟨l', hl'⟩ : ∃ l', enMem (4 + slot.toNat) l s = l' := ⟨_, rfl⟩
  have SP : Hid (∀ w1, Keeps wr w1 → Calls Tryz.prog 52 #[.pointer (some ⟨y, 0, none⟩)] w1 fun e w' => e = .returned (.bool true) ∧ ∃ f, HA w w' m b R S W g gb Sp hb n l' l (cc + 1) cc H (cs.set i ⟨y :: f, c.x, c.h⟩) ((Go.Proofs.YtaecapjicphdkaaGreat.hks ws).set i ⟨.en slot gen s', k.md, k.has⟩)) :=
    Lib.hid (fun w1 hk1 => by
      have := (h.later hk1).enP hc hks hmd hpp n1 n4 A.ok s0 s1 I (by omega) h3 (by omega)
      rw [hs', hl'] at this
      exact this)
  have hcl := (List.getElem?_eq_some_iff.1 hc).1
  have hwl := (List.getElem?_eq_some_iff.1 hk).1
  have hkl : i < (Go.Proofs.YtaecapjicphdkaaGreat.hks ws).length := by simp [Go.Proofs.YtaecapjicphdkaaGreat.hks]; exact hwl
  have SR : Hid (∀ w2 f, HA w w2 m b R S W g gb Sp hb n l' l (cc + 1) cc H (cs.set i ⟨y :: f, c.x, c.h⟩) ((Go.Proofs.YtaecapjicphdkaaGreat.hks ws).set i ⟨.en slot gen s', k.md, k.has⟩) → Calls Tryz.prog 60 #[.pointer (some ⟨x, 0, none⟩)] w2 fun e w' => e = .returned (.bool true) ∧ ∃ f2, HA w w' m b R S W g gb Sp hb n l' l' (cc + 1) (cc + 1) H (cs.set i ⟨y :: f, x :: f2, c.h⟩) ((Go.Proofs.YtaecapjicphdkaaGreat.hks ws).set i ⟨.en slot gen s', .en slot gen s', k.has⟩)) :=
    Lib.hid (fun w2 f h2 => by
      have := h2.enR (List.getElem?_set_self hcl) (List.getElem?_set_self hkl) hmd hxx n1 n4 A.ok s0 s1 I (by omega) h3 (by omega)
      rw [hs', hl'] at this
      simp only [List.set_set] at this
      exact this)
  have hll := A.ok.len
  have hwd : 0 ≤ l.getD (4 + slot.toNat) 0 ∧ l.getD (4 + slot.toNat) 0 < 18446744073709551616 := A.ok.words _ (List.mem_of_getElem? (getD_some (by omega)))
  have I' : EnInv (C + 1) s' := by rw [← hs']; exact I.step hwd
  have L' : StOk 1 (4 + n) n (13 + 2 * n) l' := by
    rw [← hl']
    unfold enMem
    split
    · split
      · exact A.ok.set _ _ (rootI_bd _ _ _ _).1 (rootI_bd _ _ _ _).2
      · exact A.ok
    · exact A.ok
  have CD' : s'.code = 0 ∨ s'.code = 3 ∧ 2 ≤ s'.ph := by rw [← hs']; exact enStep_code hcode
  have HCd := Lib.hid CD'
  clear CD' hcode
  have HC := Lib.hid hc
  have HK := Lib.hid hk
  have HTi := Lib.hid ti
  have HAl := Lib.hid A
  have HI := Lib.hid I'
  have HL := Lib.hid L'
  have HSl := Lib.hid (And.intro s0 s1)
  have HIt := Lib.hid hit
  have HLn := Lib.hid hln
  have HPp : Hid (∀ f, (y :: f).head? = c.p.head?) := Lib.hid (fun f => by rw [hpp]; rfl)
  have HXx : Hid (∀ f, (x :: f).head? = c.x.head?) := Lib.hid (fun f => by rw [hxx]; rfl)
  have HKd : Hid (∀ t, hkind (.en slot gen t) = hkind k.md) := Lib.hid (fun t => by rw [hmd]; rfl)
  have HKz : Hid (hkind k.md = 1) := Lib.hid (by rw [hmd]; rfl)
  have HVh := Lib.hid hvh
  clear I' L' hs' hl' hc hk ti A T I P ep ex hpp hxx hmd rH hit hln hvh hll hwd
  obtain ⟨bo, hD2⟩ : ∃ bo, decide (2 ≤ s'.ph) = bo := ⟨_, rfl⟩
  have HD2 := Lib.hid hD2
  clear hD2
  go_enter Tryz.func24, Tryz.ntmps24
  go_upto_region 12 with fail
  go_region_held3 (fun u => u.cell? ⟨hb, 4 + i, none⟩ = some (.pointer (some ⟨y, 0, none⟩)) ∧ u.cell? ⟨hb, 20 + i, none⟩ = some (.pointer (some ⟨x, 0, none⟩))) (first | exact ⟨c1, c2⟩) (fail)
  go_wp2
  go_cut [163] (fun t wc => t = .bool false ∧ ∃ f f2, HA w wc m b R S W g gb Sp hb n l' l' (cc + 1) (cc + 1) H (cs.set i ⟨y :: f, x :: f2, c.h⟩) ((Go.Proofs.YtaecapjicphdkaaGreat.hks ws).set i ⟨.en slot gen s', .en slot gen s', k.has⟩))
  case first =>
    refine wp_region_held_drew (S := fun _ => True) (by kernel_rfl) trivial (fun hHeld => ?_)
    refine wpAnyH_take (i := 0) (oi := { dst := some 132, op := Go.Op.move (Go.Operand.tmp 15), type := 38, pos := "law.go:114", after := #[], guard := none }) (v := ?yv0) rfl (by kernel_rfl) (by kernel_rfl) (by kernel_rfl) (fun _ _ _ h => h) (Or.inl ⟨by rfl, ?yh0⟩) hHeld ?yr0
    case yh0 => intro y hSw; (try dsimp only at hSw); go_split_ands; go_simp; (try with_reducible rfl)
    (try simp only [Act.put, List.setIfInBounds_toArray, List.set_cons_zero, List.set_cons_succ])
    refine wpAnyH_take (i := 2) (oi := { dst := some 134, op := Go.Op.move (Go.Operand.tmp 16), type := 69, pos := "law.go:114", after := #[], guard := none }) (v := ?yv2) rfl (by kernel_rfl) (by kernel_rfl) (by kernel_rfl) (fun _ _ _ h => h) (Or.inl ⟨by rfl, ?yh2⟩) hHeld ?yr2
    case yh2 => intro y hSw; (try dsimp only at hSw); go_split_ands; go_simp; (try with_reducible rfl)
    (try simp only [Act.put, List.setIfInBounds_toArray, List.set_cons_zero, List.set_cons_succ])
    refine wpAnyH_ready (rs := [1]) (by kernel_rfl) (by simp) ?_
    refine AllReadyH.cons (o := { dst := some 133, op := Go.Op.call { callee := Go.Callee.value (Go.Operand.func 52), args := #[Go.Operand.tmp 132], argTypes := #[38] }, type := 4, pos := "law.go:114", after := #[{ on := 0, ground := Go.Ground.data }], guard := none }) rfl (fun K' hK => ?_) AllReadyH.nil
    go_simp
    (go_at_call 52; refine (SP.out _ (by ((repeat' (first | (with_reducible exact Keeps.refl _) | (with_reducible assumption) | (with_reducible refine Keeps.drewN ?_ _) | (with_reducible refine Keeps.drew ?_) | (with_reducible refine Keeps.alloc ?_ _) | (with_reducible refine Keeps.setCell ?_ ?_ _) | (with_reducible refine Keeps.trans ?_ (After.keeps _)) | (with_reducible refine Keeps.trans ?_ (by with_reducible assumption)) | go_size)); (first | done | fail)))).mono ?_; rintro e w1 ⟨rfl, f, h⟩)
    refine hK.out _ _ trivial (fun _ => ?_)
    clear hHeld
    have hHeld : True := trivial
    clear hK K'
    (try simp only [Act.put, List.setIfInBounds_toArray, List.set_cons_zero, List.set_cons_succ])
    refine wpAnyH_ready (rs := [3]) (by kernel_rfl) (by simp) ?_
    refine AllReadyH.cons (o := { dst := some 135, op := Go.Op.call { callee := Go.Callee.value (Go.Operand.func 60), args := #[Go.Operand.tmp 134], argTypes := #[69] }, type := 4, pos := "law.go:114", after := #[{ on := 2, ground := Go.Ground.data }, { on := 1, ground := Go.Ground.chain }], guard := none }) rfl (fun K' hK => ?_) AllReadyH.nil
    go_simp
    (go_at_call 60; refine (SR.out _ _ h).mono ?_; rintro e w2 ⟨rfl, f2, h⟩)
    obtain ⟨⟨-, hP⟩, -, a9, hX, -⟩ := h.bothE HC.out HK.out
    rw [HD2.out] at hX
    refine hK.out _ _ trivial (fun _ => ?_)
    clear hHeld
    refine hAnyH_mono (S' := fun u => ((u.cell? ⟨x, 9, none⟩ = some (.bool bo) ∧ u.cell? ⟨x, 5, none⟩ = some (.int .i64 s'.point)) ∧ u.cell? ⟨x, 6, none⟩ = some (.int .i64 s'.chunk))) (fun _ _ => trivial) _ _ _ _ ?_
    have hHeld : ((w2.cell? ⟨x, 9, none⟩ = some (.bool bo) ∧ w2.cell? ⟨x, 5, none⟩ = some (.int .i64 s'.point)) ∧ w2.cell? ⟨x, 6, none⟩ = some (.int .i64 s'.chunk)) := ⟨⟨hX.cell 9, hX.cell 5⟩, hX.cell 6⟩
    clear hK K'
    (try simp only [Act.put, List.setIfInBounds_toArray, List.set_cons_zero, List.set_cons_succ])
    refine wpAnyH_take (i := 4) (oi := { dst := some 136, op := Go.Op.binOp Go.BinOp.neq 4 (Go.Operand.tmp 133) (Go.Operand.tmp 135) 4, type := 4, pos := "law.go:114", after := #[{ on := 1, ground := Go.Ground.data }, { on := 3, ground := Go.Ground.data }], guard := none }) (v := ?yv4) rfl (by kernel_rfl) (by kernel_rfl) (by kernel_rfl) (fun _ _ _ h => h) (Or.inl ⟨by rfl, ?yh4⟩) hHeld ?yr4
    case yh4 => intro y hSw; (try dsimp only at hSw); go_split_ands; go_simp; (try with_reducible rfl)
    (try simp only [Act.put, List.setIfInBounds_toArray, List.set_cons_zero, List.set_cons_succ])
    refine wpAnyH_take (i := 5) (oi := { dst := some 137, op := Go.Op.move (Go.Operand.tmp 136), type := 4, pos := "law.go:114", after := #[{ on := 4, ground := Go.Ground.data }, { on := 3, ground := Go.Ground.chain }], guard := none }) (v := ?yv5) rfl (by kernel_rfl) (by kernel_rfl) (by kernel_rfl) (fun _ _ _ h => h) (Or.inl ⟨by rfl, ?yh5⟩) hHeld ?yr5
    case yh5 => intro y hSw; (try dsimp only at hSw); go_split_ands; go_simp; (try with_reducible rfl)
    (try simp only [Act.put, List.setIfInBounds_toArray, List.set_cons_zero, List.set_cons_succ])
    refine wpAnyH_take (i := 6) (oi := { dst := some 138, op := Go.Op.move (Go.Operand.tmp 15), type := 38, pos := "law.go:114", after := #[{ on := 5, ground := Go.Ground.guard }], guard := some (5, false) }) (v := ?yv6) rfl (by kernel_rfl) (by kernel_rfl) (by kernel_rfl) (fun _ _ _ h => h) (Or.inl ⟨by rfl, ?yh6⟩) hHeld ?yr6
    case yh6 => intro y hSw; (try dsimp only at hSw); go_split_ands; go_simp; (try with_reducible rfl)
    (try simp only [Act.put, List.setIfInBounds_toArray, List.set_cons_zero, List.set_cons_succ])
    refine wpAnyH_take (i := 8) (oi := { dst := some 140, op := Go.Op.move (Go.Operand.tmp 16), type := 69, pos := "law.go:114", after := #[{ on := 5, ground := Go.Ground.guard }], guard := some (5, false) }) (v := ?yv8) rfl (by kernel_rfl) (by kernel_rfl) (by kernel_rfl) (fun _ _ _ h => h) (Or.inl ⟨by rfl, ?yh8⟩) hHeld ?yr8
    case yh8 => intro y hSw; (try dsimp only at hSw); go_split_ands; go_simp; (try with_reducible rfl)
    (try simp only [Act.put, List.setIfInBounds_toArray, List.set_cons_zero, List.set_cons_succ])
    refine wpAnyH_take (i := 9) (oi := { dst := some 141, op := Go.Op.nilCheck (Go.Operand.tmp 140), type := 0, pos := "law.go:114", after := #[{ on := 8, ground := Go.Ground.data }, { on := 5, ground := Go.Ground.guard }], guard := some (5, false) }) (v := ?yv9) rfl (by kernel_rfl) (by kernel_rfl) (by kernel_rfl) (fun _ _ _ h => h) (Or.inl ⟨by rfl, ?yh9⟩) hHeld ?yr9
    case yh9 => intro y hSw; (try dsimp only at hSw); go_split_ands; go_simp; (try with_reducible rfl)
    (try simp only [Act.put, List.setIfInBounds_toArray, List.set_cons_zero, List.set_cons_succ])
    refine wpAnyH_take (i := 10) (oi := { dst := some 142, op := Go.Op.fieldAddr 129 (Go.Operand.tmp 141) 9, type := 0, pos := "law.go:114", after := #[{ on := 9, ground := Go.Ground.data }, { on := 5, ground := Go.Ground.guard }], guard := some (5, false) }) (v := ?yv10) rfl (by kernel_rfl) (by kernel_rfl) (by kernel_rfl) (fun _ _ _ h => h) (Or.inl ⟨by rfl, ?yh10⟩) hHeld ?yr10
    case yh10 => intro y hSw; (try dsimp only at hSw); go_split_ands; go_simp; (try with_reducible rfl)
    (try simp only [Act.put, List.setIfInBounds_toArray, List.set_cons_zero, List.set_cons_succ])
    refine wpAnyH_take (i := 11) (oi := { dst := some 143, op := Go.Op.load 4 (Go.Operand.tmp 142), type := 4, pos := "law.go:114", after := #[{ on := 10, ground := Go.Ground.data }, { on := 5, ground := Go.Ground.guard }], guard := some (5, false) }) (v := ?yv11) rfl (by kernel_rfl) (by kernel_rfl) (by kernel_rfl) (fun _ _ _ h => h) (Or.inl ⟨by rfl, ?yh11⟩) hHeld ?yr11
    case yh11 => intro y hSw; (try dsimp only at hSw); go_split_ands; go_simp; (try with_reducible rfl)
    (try simp only [Act.put, List.setIfInBounds_toArray, List.set_cons_zero, List.set_cons_succ])
    refine wpAnyH_ready (rs := [7]) (by kernel_rfl) (by simp) ?_
    refine AllReadyH.cons (o := { dst := some 139, op := Go.Op.call { callee := Go.Callee.value (Go.Operand.func 53), args := #[Go.Operand.tmp 138], argTypes := #[38] }, type := 4, pos := "law.go:114", after := #[{ on := 6, ground := Go.Ground.data }, { on := 5, ground := Go.Ground.chain }, { on := 5, ground := Go.Ground.guard }], guard := some (5, false) }) rfl (fun K' hK => ?_) AllReadyH.nil
    go_simp
    (go_at_call 53; refine (edDone_s hP).mono ?_; rintro e w3 ⟨rfl, rfl⟩; rw [HD2.out])
    refine hK.out _ _ hHeld (fun _ => ?_)
    clear hK K'
    (try simp only [Act.put, List.setIfInBounds_toArray, List.set_cons_zero, List.set_cons_succ])
    refine wpAnyH_take (i := 12) (oi := { dst := some 144, op := Go.Op.binOp Go.BinOp.neq 4 (Go.Operand.tmp 139) (Go.Operand.tmp 143) 4, type := 4, pos := "law.go:114", after := #[{ on := 7, ground := Go.Ground.data }, { on := 11, ground := Go.Ground.data }, { on := 5, ground := Go.Ground.guard }], guard := some (5, false) }) (v := ?yv12) rfl (by kernel_rfl) (by kernel_rfl) (by kernel_rfl) (fun _ _ _ h => h) (Or.inl ⟨by rfl, ?yh12⟩) hHeld ?yr12
    case yh12 => intro y hSw; (try dsimp only at hSw); go_split_ands; go_simp; (try with_reducible rfl)
    (try simp only [Act.put, List.setIfInBounds_toArray, List.set_cons_zero, List.set_cons_succ])
    refine wpAnyH_take (i := 13) (oi := { dst := some 145, op := Go.Op.pick (Go.Operand.tmp 137) (Go.Operand.const (Go.Value.bool true)) (Go.Operand.tmp 144), type := 4, pos := "law.go:114", after := #[{ on := 5, ground := Go.Ground.data }, { on := 12, ground := Go.Ground.data }], guard := none }) (v := ?yv13) rfl (by kernel_rfl) (by kernel_rfl) (by kernel_rfl) (fun _ _ _ h => h) (Or.inl ⟨by rfl, ?yh13⟩) hHeld ?yr13
    case yh13 => intro y hSw; (try dsimp only at hSw); go_split_ands; go_simp; (try with_reducible rfl)
    (try simp only [Act.put, List.setIfInBounds_toArray, List.set_cons_zero, List.set_cons_succ])
    refine wpAnyH_take (i := 14) (oi := { dst := some 146, op := Go.Op.move (Go.Operand.tmp 145), type := 4, pos := "law.go:114", after := #[{ on := 13, ground := Go.Ground.data }, { on := 7, ground := Go.Ground.chain }], guard := none }) (v := ?yv14) rfl (by kernel_rfl) (by kernel_rfl) (by kernel_rfl) (fun _ _ _ h => h) (Or.inl ⟨by rfl, ?yh14⟩) hHeld ?yr14
    case yh14 => intro y hSw; (try dsimp only at hSw); go_split_ands; go_simp; (try with_reducible rfl)
    (try simp only [Act.put, List.setIfInBounds_toArray, List.set_cons_zero, List.set_cons_succ])
    refine wpAnyH_take (i := 15) (oi := { dst := some 147, op := Go.Op.move (Go.Operand.tmp 15), type := 38, pos := "law.go:114", after := #[{ on := 14, ground := Go.Ground.guard }], guard := some (14, false) }) (v := ?yv15) rfl (by kernel_rfl) (by kernel_rfl) (by kernel_rfl) (fun _ _ _ h => h) (Or.inl ⟨by rfl, ?yh15⟩) hHeld ?yr15
    case yh15 => intro y hSw; (try dsimp only at hSw); go_split_ands; go_simp; (try with_reducible rfl)
    (try simp only [Act.put, List.setIfInBounds_toArray, List.set_cons_zero, List.set_cons_succ])
    refine wpAnyH_take (i := 17) (oi := { dst := some 149, op := Go.Op.move (Go.Operand.tmp 16), type := 69, pos := "law.go:114", after := #[{ on := 14, ground := Go.Ground.guard }], guard := some (14, false) }) (v := ?yv17) rfl (by kernel_rfl) (by kernel_rfl) (by kernel_rfl) (fun _ _ _ h => h) (Or.inl ⟨by rfl, ?yh17⟩) hHeld ?yr17
    case yh17 => intro y hSw; (try dsimp only at hSw); go_split_ands; go_simp; (try with_reducible rfl)
    (try simp only [Act.put, List.setIfInBounds_toArray, List.set_cons_zero, List.set_cons_succ])
    refine wpAnyH_take (i := 18) (oi := { dst := some 150, op := Go.Op.nilCheck (Go.Operand.tmp 149), type := 0, pos := "law.go:114", after := #[{ on := 17, ground := Go.Ground.data }, { on := 14, ground := Go.Ground.guard }], guard := some (14, false) }) (v := ?yv18) rfl (by kernel_rfl) (by kernel_rfl) (by kernel_rfl) (fun _ _ _ h => h) (Or.inl ⟨by rfl, ?yh18⟩) hHeld ?yr18
    case yh18 => intro y hSw; (try dsimp only at hSw); go_split_ands; go_simp; (try with_reducible rfl)
    (try simp only [Act.put, List.setIfInBounds_toArray, List.set_cons_zero, List.set_cons_succ])
    refine wpAnyH_take (i := 19) (oi := { dst := some 151, op := Go.Op.fieldAddr 129 (Go.Operand.tmp 150) 5, type := 0, pos := "law.go:114", after := #[{ on := 18, ground := Go.Ground.data }, { on := 14, ground := Go.Ground.guard }], guard := some (14, false) }) (v := ?yv19) rfl (by kernel_rfl) (by kernel_rfl) (by kernel_rfl) (fun _ _ _ h => h) (Or.inl ⟨by rfl, ?yh19⟩) hHeld ?yr19
    case yh19 => intro y hSw; (try dsimp only at hSw); go_split_ands; go_simp; (try with_reducible rfl)
    (try simp only [Act.put, List.setIfInBounds_toArray, List.set_cons_zero, List.set_cons_succ])
    refine wpAnyH_take (i := 20) (oi := { dst := some 152, op := Go.Op.load 3 (Go.Operand.tmp 151), type := 3, pos := "law.go:114", after := #[{ on := 19, ground := Go.Ground.data }, { on := 14, ground := Go.Ground.guard }], guard := some (14, false) }) (v := ?yv20) rfl (by kernel_rfl) (by kernel_rfl) (by kernel_rfl) (fun _ _ _ h => h) (Or.inl ⟨by rfl, ?yh20⟩) hHeld ?yr20
    case yh20 => intro y hSw; (try dsimp only at hSw); go_split_ands; go_simp; (try with_reducible rfl)
    (try simp only [Act.put, List.setIfInBounds_toArray, List.set_cons_zero, List.set_cons_succ])
    refine wpAnyH_ready (rs := [16]) (by kernel_rfl) (by simp) ?_
    refine AllReadyH.cons (o := { dst := some 148, op := Go.Op.call { callee := Go.Callee.value (Go.Operand.func 61), args := #[Go.Operand.tmp 147], argTypes := #[38] }, type := 3, pos := "law.go:114", after := #[{ on := 15, ground := Go.Ground.data }, { on := 14, ground := Go.Ground.chain }, { on := 14, ground := Go.Ground.guard }], guard := some (14, false) }) rfl (fun K' hK => ?_) AllReadyH.nil
    go_simp
    (go_at_call 61; refine (edPoint_c hP).mono ?_; rintro e w3 ⟨rfl, rfl⟩)
    refine hK.out _ _ hHeld (fun _ => ?_)
    clear hK K'
    (try simp only [Act.put, List.setIfInBounds_toArray, List.set_cons_zero, List.set_cons_succ])
    refine wpAnyH_take (i := 21) (oi := { dst := some 153, op := Go.Op.binOp Go.BinOp.neq 3 (Go.Operand.tmp 148) (Go.Operand.tmp 152) 3, type := 4, pos := "law.go:114", after := #[{ on := 16, ground := Go.Ground.data }, { on := 20, ground := Go.Ground.data }, { on := 14, ground := Go.Ground.guard }], guard := some (14, false) }) (v := ?yv21) rfl (by kernel_rfl) (by kernel_rfl) (by kernel_rfl) (fun _ _ _ h => h) (Or.inl ⟨by rfl, ?yh21⟩) hHeld ?yr21
    case yh21 => intro y hSw; (try dsimp only at hSw); go_split_ands; go_simp; (try with_reducible rfl)
    (try simp only [Act.put, List.setIfInBounds_toArray, List.set_cons_zero, List.set_cons_succ])
    refine wpAnyH_take (i := 22) (oi := { dst := some 154, op := Go.Op.pick (Go.Operand.tmp 146) (Go.Operand.const (Go.Value.bool true)) (Go.Operand.tmp 153), type := 4, pos := "law.go:114", after := #[{ on := 14, ground := Go.Ground.data }, { on := 21, ground := Go.Ground.data }], guard := none }) (v := ?yv22) rfl (by kernel_rfl) (by kernel_rfl) (by kernel_rfl) (fun _ _ _ h => h) (Or.inl ⟨by rfl, ?yh22⟩) hHeld ?yr22
    case yh22 => intro y hSw; (try dsimp only at hSw); go_split_ands; go_simp; (try with_reducible rfl)
    (try simp only [Act.put, List.setIfInBounds_toArray, List.set_cons_zero, List.set_cons_succ])
    refine wpAnyH_take (i := 23) (oi := { dst := some 155, op := Go.Op.move (Go.Operand.tmp 154), type := 4, pos := "law.go:114", after := #[{ on := 22, ground := Go.Ground.data }, { on := 16, ground := Go.Ground.chain }], guard := none }) (v := ?yv23) rfl (by kernel_rfl) (by kernel_rfl) (by kernel_rfl) (fun _ _ _ h => h) (Or.inl ⟨by rfl, ?yh23⟩) hHeld ?yr23
    case yh23 => intro y hSw; (try dsimp only at hSw); go_split_ands; go_simp; (try with_reducible rfl)
    (try simp only [Act.put, List.setIfInBounds_toArray, List.set_cons_zero, List.set_cons_succ])
    refine wpAnyH_take (i := 24) (oi := { dst := some 156, op := Go.Op.move (Go.Operand.tmp 15), type := 38, pos := "law.go:114", after := #[{ on := 23, ground := Go.Ground.guard }], guard := some (23, false) }) (v := ?yv24) rfl (by kernel_rfl) (by kernel_rfl) (by kernel_rfl) (fun _ _ _ h => h) (Or.inl ⟨by rfl, ?yh24⟩) hHeld ?yr24
    case yh24 => intro y hSw; (try dsimp only at hSw); go_split_ands; go_simp; (try with_reducible rfl)
    (try simp only [Act.put, List.setIfInBounds_toArray, List.set_cons_zero, List.set_cons_succ])
    refine wpAnyH_take (i := 26) (oi := { dst := some 158, op := Go.Op.move (Go.Operand.tmp 16), type := 69, pos := "law.go:114", after := #[{ on := 23, ground := Go.Ground.guard }], guard := some (23, false) }) (v := ?yv26) rfl (by kernel_rfl) (by kernel_rfl) (by kernel_rfl) (fun _ _ _ h => h) (Or.inl ⟨by rfl, ?yh26⟩) hHeld ?yr26
    case yh26 => intro y hSw; (try dsimp only at hSw); go_split_ands; go_simp; (try with_reducible rfl)
    (try simp only [Act.put, List.setIfInBounds_toArray, List.set_cons_zero, List.set_cons_succ])
    refine wpAnyH_take (i := 27) (oi := { dst := some 159, op := Go.Op.nilCheck (Go.Operand.tmp 158), type := 0, pos := "law.go:114", after := #[{ on := 26, ground := Go.Ground.data }, { on := 23, ground := Go.Ground.guard }], guard := some (23, false) }) (v := ?yv27) rfl (by kernel_rfl) (by kernel_rfl) (by kernel_rfl) (fun _ _ _ h => h) (Or.inl ⟨by rfl, ?yh27⟩) hHeld ?yr27
    case yh27 => intro y hSw; (try dsimp only at hSw); go_split_ands; go_simp; (try with_reducible rfl)
    (try simp only [Act.put, List.setIfInBounds_toArray, List.set_cons_zero, List.set_cons_succ])
    refine wpAnyH_take (i := 28) (oi := { dst := some 160, op := Go.Op.fieldAddr 129 (Go.Operand.tmp 159) 6, type := 0, pos := "law.go:114", after := #[{ on := 27, ground := Go.Ground.data }, { on := 23, ground := Go.Ground.guard }], guard := some (23, false) }) (v := ?yv28) rfl (by kernel_rfl) (by kernel_rfl) (by kernel_rfl) (fun _ _ _ h => h) (Or.inl ⟨by rfl, ?yh28⟩) hHeld ?yr28
    case yh28 => intro y hSw; (try dsimp only at hSw); go_split_ands; go_simp; (try with_reducible rfl)
    (try simp only [Act.put, List.setIfInBounds_toArray, List.set_cons_zero, List.set_cons_succ])
    refine wpAnyH_take (i := 29) (oi := { dst := some 161, op := Go.Op.load 3 (Go.Operand.tmp 160), type := 3, pos := "law.go:114", after := #[{ on := 28, ground := Go.Ground.data }, { on := 23, ground := Go.Ground.guard }], guard := some (23, false) }) (v := ?yv29) rfl (by kernel_rfl) (by kernel_rfl) (by kernel_rfl) (fun _ _ _ h => h) (Or.inl ⟨by rfl, ?yh29⟩) hHeld ?yr29
    case yh29 => intro y hSw; (try dsimp only at hSw); go_split_ands; go_simp; (try with_reducible rfl)
    (try simp only [Act.put, List.setIfInBounds_toArray, List.set_cons_zero, List.set_cons_succ])
    refine wpAnyH_ready (rs := [25]) (by kernel_rfl) (by simp) ?_
    refine AllReadyH.cons (o := { dst := some 157, op := Go.Op.call { callee := Go.Callee.value (Go.Operand.func 62), args := #[Go.Operand.tmp 156], argTypes := #[38] }, type := 3, pos := "law.go:114", after := #[{ on := 24, ground := Go.Ground.data }, { on := 23, ground := Go.Ground.chain }, { on := 23, ground := Go.Ground.guard }], guard := some (23, false) }) rfl (fun K' hK => ?_) AllReadyH.nil
    go_simp
    (go_at_call 62; refine (edChunk_c hP).mono ?_; rintro e w3 ⟨rfl, rfl⟩)
    refine hK.out _ _ hHeld (fun _ => ?_)
    clear hK K'
    (try simp only [Act.put, List.setIfInBounds_toArray, List.set_cons_zero, List.set_cons_succ])
    refine wpAnyH_take (i := 30) (oi := { dst := some 162, op := Go.Op.binOp Go.BinOp.neq 3 (Go.Operand.tmp 157) (Go.Operand.tmp 161) 3, type := 4, pos := "law.go:114", after := #[{ on := 25, ground := Go.Ground.data }, { on := 29, ground := Go.Ground.data }, { on := 23, ground := Go.Ground.guard }], guard := some (23, false) }) (v := ?yv30) rfl (by kernel_rfl) (by kernel_rfl) (by kernel_rfl) (fun _ _ _ h => h) (Or.inl ⟨by rfl, ?yh30⟩) hHeld ?yr30
    case yh30 => intro y hSw; (try dsimp only at hSw); go_split_ands; go_simp; (try with_reducible rfl)
    (try simp only [Act.put, List.setIfInBounds_toArray, List.set_cons_zero, List.set_cons_succ])
    refine wpAnyH_take (i := 31) (oi := { dst := some 163, op := Go.Op.pick (Go.Operand.tmp 155) (Go.Operand.const (Go.Value.bool true)) (Go.Operand.tmp 162), type := 4, pos := "law.go:114", after := #[{ on := 23, ground := Go.Ground.data }, { on := 30, ground := Go.Ground.data }], guard := none }) (v := ?yv31) rfl (by kernel_rfl) (by kernel_rfl) (by kernel_rfl) (fun _ _ _ h => h) (Or.inl ⟨by rfl, ?yh31⟩) hHeld ?yr31
    case yh31 => intro y hSw; (try dsimp only at hSw); go_split_ands; go_simp; (try with_reducible rfl)
    (try simp only [Act.put, List.setIfInBounds_toArray, List.set_cons_zero, List.set_cons_succ])
    refine wpAnyH_done (by kernel_rfl) ?_ _
    go_wp2
    go_meet
    case rel => exact ⟨rfl, f, f2, h⟩
  case rest =>
    obtain ⟨rfl, f, f2, h⟩ := hcut
    obtain ⟨⟨hf1, hP⟩, hf2, a9, hX, -⟩ := h.bothE HC.out HK.out
    rw [HD2.out] at hX
    have FX_ := (hX).facts; simp only [blockFacts, listFacts, cellsAt, Nat.reduceAdd, and_true, true_and, and_assoc] at FX_
    have hhn := h.hands.frozen (4 + i)
    have hhc := h.hands.cellv cp.out
    cases bo with
    | false =>
      go_wp2
      go_ret
      exact ⟨rfl, HInv.go h HTi.out HAl.out HC.out HK.out hi4 (HPp.out _) (HXx.out _) (HKd.out _) HL.out ⟨HSl.out, HI.out, by have := of_decide_eq_false HD2.out; omega, by have := of_decide_eq_false HD2.out; have := HCd.out; omega⟩ (by omega)⟩
    | true =>
      rcases HCd.out with h7 | ⟨h7, -⟩
      · have hPh := hP
        unfold EnRep at hPh
        rw [h7] at hX hPh FX_
        clear h7
        go_upto_region 16 with fail
        have HCq := Lib.hid (fun k => Calls.quiet_of_same ((edCode_c (hPh.drewN k)).mono fun _ _ ⟨p, q⟩ => ⟨p, q.symm⟩))
        go_quiet ((go_at_call 54; with_reducible exact HCq.out _))
        go_upto_region 19 with fail
        have h := h.later ((Keeps.refl wc).drewN nq)
        have hX := hX.drewN nq
        generalize wc.drewN nq = W2 at *
        have RH : Row w.heap.size 3 W2 (.slice ah k.has.length caph) (ivals k.has) := by
          have r := (h.gang.rep i _ _ (List.getElem?_set_self hcl) (List.getElem?_set_self hkl)).has
          dsimp only at r
          rw [HVh.out] at r
          exact r
        clear FX_
        have FX_ := (hX).facts; simp only [blockFacts, listFacts, cellsAt, Nat.reduceAdd, and_true, true_and, and_assoc] at FX_
        have ch := h.hands.cellv cH.out
        have chA : ∀ o : Obj, (W2.alloc o).cell? ⟨hb, 32 + i, none⟩ = some (.slice ah k.has.length caph) := fun o => (h.hands.alloc o).cellv cH.out
        have cxA : ∀ o : Obj, (W2.alloc o).cell? ⟨x, 1, none⟩ = some (.int .i64 slot) := fun o => (hX.alloc o).cell 1
        have hkc : (k.has.length : Int) ≤ 2000 := by have := HLn.out; omega
        have hsW := h.keeps.size
        go_region_law (refine step_append_ints (B := w.heap.size) (by rfl) _ _ (by rfl) _ (by rfl) (by rfl) (RH.keeps (by ((repeat' (first | (with_reducible exact Keeps.refl _) | (with_reducible assumption) | (with_reducible refine Keeps.drewN ?_ _) | (with_reducible refine Keeps.drew ?_) | (with_reducible refine Keeps.alloc ?_ _) | (with_reducible refine Keeps.setCell ?_ ?_ _) | (with_reducible refine Keeps.trans ?_ (After.keeps _)) | (with_reducible refine Keeps.trans ?_ (by with_reducible assumption)) | go_size)); (first | done | fail)))) (Has.src (by first | exact Has.new _ _ _ | exact Has.drew (Has.new _ _ _)) 1) (by simp; omega) (by simp; omega) ?_; intro v5 w5 R5 U5 O5; have h := (h.later (by ((repeat' (first | (with_reducible exact Keeps.refl _) | (with_reducible assumption) | (with_reducible refine Keeps.drewN ?_ _) | (with_reducible refine Keeps.drew ?_) | (with_reducible refine Keeps.alloc ?_ _) | (with_reducible refine Keeps.setCell ?_ ?_ _) | (with_reducible refine Keeps.trans ?_ (After.keeps _)) | (with_reducible refine Keeps.trans ?_ (by with_reducible assumption)) | go_size)); (first | done | fail)))).stepH (List.getElem?_set_self hcl) (List.getElem?_set_self hkl) U5 (fun z hz => by rw [HVh.out]; exact hz) R5 (fun z hz => by rcases O5 z hz with o | o; (left; rw [HVh.out]; exact o); (right; rw [o]; exact Nat.le_refl _)); obtain ⟨a5, c5, hv5, -⟩ := R5.reads; generalize List.length _ = n5 at hv5; subst hv5; have ch := h.hands.cellv cH.out; have fh := h.hands.frozen (32 + i); have cp4 := h.hands.cellv cp.out; have fp4 := h.hands.frozen (4 + i))
        all_goals go_wp2
        all_goals go_ret
        all_goals simp only [List.set_set] at h
        all_goals exact ⟨rfl, by simpa using HInv.stopH (a := 1) h HTi.out HAl.out HC.out HK.out hi4 (by omega) HKz.out HL.out (fun z hz => by rcases List.mem_append.1 hz with hz | hz; (exact HIt.out z hz); (rw [List.mem_singleton.1 hz]; exact HSl.out)) (by have := HLn.out; simp; omega) (by omega)⟩
      · have hPh := hP
        unfold EnRep at hPh
        rw [h7] at hX hPh FX_
        clear h7
        go_upto_region 16 with fail
        have HCq := Lib.hid (fun k => Calls.quiet_of_same ((edCode_c (hPh.drewN k)).mono fun _ _ ⟨p, q⟩ => ⟨p, q.symm⟩))
        go_quiet ((go_at_call 54; with_reducible exact HCq.out _))
        go_wp2
        go_ret
        exact ⟨rfl, by simpa using HInv.stop (a := 1) (h.later ((Keeps.refl _).drewN _)) HTi.out HAl.out HC.out HK.out hi4 (by omega) HKz.out HL.out (by omega)⟩
end
end Go.Proofs.YtaecapjicphdkaaGreat
