/- RootsPlay's goes, walked: a Push goes on. -/
import Derived.Test.YtaecapjicphdkaaGreatMg36
import Derived.Deep.RegionHeld3
namespace Go.Proofs.YtaecapjicphdkaaGreat
set_option linter.unusedVariables false
set_option linter.unusedSimpArgs false
open Go Go.RowKit
set_option maxRecDepth 100000
set_option maxHeartbeats 4000000

section
variable {w wr w' : World} {m b R S W g gb Sp hb n : Nat} {l : List Int} {cc C : Int} {H : List Value} {cs : List HLoc} {ws : List HWs} {i : Nat} {c : HLoc} {k : HWs}
theorem HA.bothP {s' : Pu} {l' : List Int} {f f2 : List Nat} {y x : Nat} (h : HA w wr m b R S W g gb Sp hb n l' l' (cc + 1) (cc + 1) H (cs.set i ⟨y :: f, x :: f2, c.h⟩) ((hks ws).set i ⟨.pu s', .pu s', k.has⟩)) (hc : cs[i]? = some c) (hk : ws[i]? = some k) :
    (∃ v, f = ownB v ∧ PuRep wr w.heap.size y S v s') ∧ ∃ v, f2 = ownB v ∧ RPuRep wr w.heap.size x Sp v s' := by
  have hl := (List.getElem?_eq_some_iff.1 hc).1
  have hl2 : i < (hks ws).length := by simp [hks]; exact (List.getElem?_eq_some_iff.1 hk).1
  obtain ⟨pm, rm, -⟩ := h.gang.rep i _ _ (List.getElem?_set_self hl) (List.getElem?_set_self hl2)
  obtain ⟨y', v1, ep, hp⟩ := pm
  obtain ⟨x', v2, ex, hx⟩ := rm
  dsimp only at ep ex
  cases ep; cases ex
  exact ⟨⟨_, rfl, hp⟩, _, rfl, hx⟩
theorem goes_pu (v : Int) {s : Pu} (h : HA w wr m b R S W g gb Sp hb n l l cc cc H cs (hks ws)) (ti : HTies H cs ws) (A : HAll n C l ws) (hcc : cc ≤ C) (hC : C ≤ 1000) (hc : cs[i]? = some c) (hk : ws[i]? = some k) (hmd : k.md = .pu s) (hi4 : i < 4) (n1 : 1 ≤ n) (n4 : n ≤ 4) :
    Calls Tryz.prog 24 #[.pointer (some ⟨hb, 0, none⟩), .pointer (some ⟨R, 0, none⟩), .pointer (some ⟨W, 0, none⟩), .int .i64 i, .int .i64 v] wr fun e w' => e = .returned (.bool true) ∧ HInv w w' m b R S W g gb Sp hb n (C + 1) := by
  have hks := hks_at hk
  have P := h.gang.rep i c _ hc hks
  have pm := P.md
  have rm := P.rmd
  dsimp only at pm rm
  rw [hmd] at pm rm
  obtain ⟨y, v1, ep, -⟩ := pm
  obtain ⟨x, v2, ex, -⟩ := rm
  have hpp : c.p.head? = some y := by rw [ep]; rfl
  have hxx : c.x.head? = some x := by rw [ex]; rfl
  obtain ⟨mo, hit, hln⟩ := A.md i k hk
  rw [hmd] at mo
  obtain ⟨I, h3⟩ := mo
  have T := ti i c k hi4 hc hk
  have cn : Hid (H.toArray[i]? = some (.pointer none)) := Lib.hid (by have := T.p 0 (by omega); rw [hmd] at this; simpa [hkind] using this)
  have cn1 : Hid (H.toArray[4 + i]? = some (.pointer none)) := Lib.hid (by have := T.p 1 (by omega); rw [hmd] at this; simpa [hkind] using this)
  have cn2 : Hid (H.toArray[8 + i]? = some (.pointer none)) := Lib.hid (by have := T.p 2 (by omega); rw [hmd] at this; simpa [hkind] using this)
  have cp : Hid (H.toArray[12 + i]? = some (.pointer (some ⟨y, 0, none⟩))) := Lib.hid (by have := T.p 3 (by omega); rw [hmd, hpp] at this; simpa [hkind, optr] using this)
  have cx : Hid (H.toArray[28 + i]? = some (.pointer (some ⟨x, 0, none⟩))) := Lib.hid (by have := T.x 3 (by omega) (by rw [hmd]; rfl); rw [hxx] at this; simpa [optr] using this)
  have hh := h.hands
  have c0 := hh.cellv cn.out
  have c01 := hh.cellv cn1.out
  have c02 := hh.cellv cn2.out
  have c1 := hh.cellv cp.out
  have c2 := hh.cellv cx.out
  have i0 : (0 : Int) ≤ (i : Int) := by omega
  have i4 : (i : Int) < 4 := by omega
  obtain ⟨s', hs'⟩ : ∃ s', puStep 1 l s = s' := ⟨_, rfl⟩
  obtain ⟨l', hl'⟩ : ∃ l', puMem 1 (4 + n) n l s = l' := ⟨_, rfl⟩
  have SP : Hid (∀ w1, Keeps wr w1 → Calls Tryz.prog 55 #[.pointer (some ⟨y, 0, none⟩)] w1 fun e w' => e = .returned (.bool true) ∧ ∃ f, HA w w' m b R S W g gb Sp hb n l' l (cc + 1) cc H (cs.set i ⟨y :: f, c.x, c.h⟩) ((Go.Proofs.YtaecapjicphdkaaGreat.hks ws).set i ⟨.pu s', k.md, k.has⟩)) :=
    Lib.hid (fun w1 hk1 => by
      have := (h.later hk1).puP hc hks hmd hpp A.ok I (by omega) h3 (by omega)
      rw [hs', hl'] at this
      exact this)
  have hcl := (List.getElem?_eq_some_iff.1 hc).1
  have hwl := (List.getElem?_eq_some_iff.1 hk).1
  have hkl : i < (Go.Proofs.YtaecapjicphdkaaGreat.hks ws).length := by simp [Go.Proofs.YtaecapjicphdkaaGreat.hks]; exact hwl
  have SR : Hid (∀ w2 f, HA w w2 m b R S W g gb Sp hb n l' l (cc + 1) cc H (cs.set i ⟨y :: f, c.x, c.h⟩) ((Go.Proofs.YtaecapjicphdkaaGreat.hks ws).set i ⟨.pu s', k.md, k.has⟩) → Calls Tryz.prog 65 #[.pointer (some ⟨x, 0, none⟩)] w2 fun e w' => e = .returned (.bool true) ∧ ∃ f2, HA w w' m b R S W g gb Sp hb n l' l' (cc + 1) (cc + 1) H (cs.set i ⟨y :: f, x :: f2, c.h⟩) ((Go.Proofs.YtaecapjicphdkaaGreat.hks ws).set i ⟨.pu s', .pu s', k.has⟩)) :=
    Lib.hid (fun w2 f h2 => by
      have := h2.puR (List.getElem?_set_self hcl) (List.getElem?_set_self hkl) hmd hxx A.ok I (by omega) h3 (by omega)
      rw [hs', hl'] at this
      simp only [List.set_set] at this
      exact this)
  have I' : PuInv n (C + 1) s' := by rw [← hs']; exact I.step A.ok
  have L' : StOk 1 (4 + n) n (13 + 2 * n) l' := by rw [← hl']; exact A.ok.pu I
  have HC := Lib.hid hc
  have HK := Lib.hid hk
  have HTi := Lib.hid ti
  have HAl := Lib.hid A
  have HI := Lib.hid I'
  have HL := Lib.hid L'
  have HPp : Hid (∀ f, (y :: f).head? = c.p.head?) := Lib.hid (fun f => by rw [hpp]; rfl)
  have HXx : Hid (∀ f, (x :: f).head? = c.x.head?) := Lib.hid (fun f => by rw [hxx]; rfl)
  have HKd : Hid (∀ t, hkind (.pu t) = hkind k.md) := Lib.hid (fun t => by rw [hmd]; rfl)
  have HKz : Hid (hkind k.md = 3) := Lib.hid (by rw [hmd]; rfl)
  clear I' L' hs' hl' hc hk ti A T I P ep ex hpp hxx hmd hit hln
  obtain ⟨bo, hD2⟩ : ∃ bo, decide (4 ≤ s'.ph) = bo := ⟨_, rfl⟩
  have HD2 := Lib.hid hD2
  clear hD2
  go_enter Tryz.func24, Tryz.ntmps24
  go_upto_region 27 with fail
  go_cut [296] (fun t wc => t = .bool false ∧ ∃ f f2, HA w wc m b R S W g gb Sp hb n l' l' (cc + 1) (cc + 1) H (cs.set i ⟨y :: f, x :: f2, c.h⟩) ((Go.Proofs.YtaecapjicphdkaaGreat.hks ws).set i ⟨.pu s', .pu s', k.has⟩))
  case first =>
    refine wp_region_held_drew (S := fun u => (u.cell? ⟨hb, 12 + i, none⟩ = some (.pointer (some ⟨y, 0, none⟩)) ∧ u.cell? ⟨hb, 28 + i, none⟩ = some (.pointer (some ⟨x, 0, none⟩)))) (by kernel_rfl) ⟨hh.drew.cellv cp.out, hh.drew.cellv cx.out⟩ (fun hHeld => ?_)
    refine wpAnyH_take (i := 0) (oi := { dst := some 263, op := Go.Op.move (Go.Operand.tmp 0), type := 61, pos := "law.go:133", after := #[], guard := none }) (v := ?yv0) rfl (by kernel_rfl) (by kernel_rfl) (by kernel_rfl) (fun _ _ _ h => h) (Or.inl ⟨by rfl, ?yh0⟩) hHeld ?yr0
    case yh0 => intro y hSw; (try dsimp only at hSw); go_split_ands; go_simp; (try with_reducible rfl)
    (try simp only [Act.put, List.setIfInBounds_toArray, List.set_cons_zero, List.set_cons_succ])
    refine wpAnyH_take (i := 1) (oi := { dst := some 264, op := Go.Op.move (Go.Operand.tmp 3), type := 3, pos := "law.go:133", after := #[], guard := none }) (v := ?yv1) rfl (by kernel_rfl) (by kernel_rfl) (by kernel_rfl) (fun _ _ _ h => h) (Or.inl ⟨by rfl, ?yh1⟩) hHeld ?yr1
    case yh1 => intro y hSw; (try dsimp only at hSw); go_split_ands; go_simp; (try with_reducible rfl)
    (try simp only [Act.put, List.setIfInBounds_toArray, List.set_cons_zero, List.set_cons_succ])
    refine wpAnyH_take (i := 2) (oi := { dst := some 265, op := Go.Op.nilCheck (Go.Operand.tmp 263), type := 0, pos := "law.go:133", after := #[{ on := 0, ground := Go.Ground.data }], guard := none }) (v := ?yv2) rfl (by kernel_rfl) (by kernel_rfl) (by kernel_rfl) (fun _ _ _ h => h) (Or.inl ⟨by rfl, ?yh2⟩) hHeld ?yr2
    case yh2 => intro y hSw; (try dsimp only at hSw); go_split_ands; go_simp; (try with_reducible rfl)
    (try simp only [Act.put, List.setIfInBounds_toArray, List.set_cons_zero, List.set_cons_succ])
    refine wpAnyH_take (i := 3) (oi := { dst := some 266, op := Go.Op.fieldAddr 77 (Go.Operand.tmp 265) 3, type := 0, pos := "law.go:133", after := #[{ on := 2, ground := Go.Ground.data }], guard := none }) (v := ?yv3) rfl (by kernel_rfl) (by kernel_rfl) (by kernel_rfl) (fun _ _ _ h => h) (Or.inl ⟨by rfl, ?yh3⟩) hHeld ?yr3
    case yh3 => intro y hSw; (try dsimp only at hSw); go_split_ands; go_simp; (try with_reducible rfl)
    (try simp only [Act.put, List.setIfInBounds_toArray, List.set_cons_zero, List.set_cons_succ])
    refine wpAnyH_take (i := 4) (oi := { dst := some 267, op := Go.Op.indexAddr 66 (Go.Operand.tmp 266) (Go.Operand.tmp 264), type := 0, pos := "law.go:133", after := #[{ on := 3, ground := Go.Ground.data }, { on := 1, ground := Go.Ground.data }], guard := none }) (v := ?yv4) rfl (by kernel_rfl) (by kernel_rfl) (by kernel_rfl) (fun _ _ _ h => h) (Or.inl ⟨by rfl, ?yh4⟩) hHeld ?yr4
    case yh4 => intro y hSw; (try dsimp only at hSw); go_split_ands; go_simp; (try with_reducible rfl)
    (try simp only [Act.put, List.setIfInBounds_toArray, List.set_cons_zero, List.set_cons_succ])
    refine wpAnyH_take (i := 5) (oi := { dst := some 268, op := Go.Op.load 41 (Go.Operand.tmp 267), type := 41, pos := "law.go:133", after := #[{ on := 4, ground := Go.Ground.data }], guard := none }) (v := ?yv5) rfl (by kernel_rfl) (by kernel_rfl) (by kernel_rfl) (fun _ _ _ h => h) (Or.inl ⟨by rfl, ?yh5⟩) hHeld ?yr5
    case yh5 => intro y hSw; (try dsimp only at hSw); go_split_ands; go_simp; (try with_reducible rfl)
    (try simp only [Act.put, List.setIfInBounds_toArray, List.set_cons_zero, List.set_cons_succ])
    refine wpAnyH_take (i := 7) (oi := { dst := some 270, op := Go.Op.move (Go.Operand.tmp 0), type := 61, pos := "law.go:133", after := #[], guard := none }) (v := ?yv7) rfl (by kernel_rfl) (by kernel_rfl) (by kernel_rfl) (fun _ _ _ h => h) (Or.inl ⟨by rfl, ?yh7⟩) hHeld ?yr7
    case yh7 => intro y hSw; (try dsimp only at hSw); go_split_ands; go_simp; (try with_reducible rfl)
    (try simp only [Act.put, List.setIfInBounds_toArray, List.set_cons_zero, List.set_cons_succ])
    refine wpAnyH_take (i := 8) (oi := { dst := some 271, op := Go.Op.move (Go.Operand.tmp 3), type := 3, pos := "law.go:133", after := #[], guard := none }) (v := ?yv8) rfl (by kernel_rfl) (by kernel_rfl) (by kernel_rfl) (fun _ _ _ h => h) (Or.inl ⟨by rfl, ?yh8⟩) hHeld ?yr8
    case yh8 => intro y hSw; (try dsimp only at hSw); go_split_ands; go_simp; (try with_reducible rfl)
    (try simp only [Act.put, List.setIfInBounds_toArray, List.set_cons_zero, List.set_cons_succ])
    refine wpAnyH_take (i := 9) (oi := { dst := some 272, op := Go.Op.nilCheck (Go.Operand.tmp 270), type := 0, pos := "law.go:133", after := #[{ on := 7, ground := Go.Ground.data }], guard := none }) (v := ?yv9) rfl (by kernel_rfl) (by kernel_rfl) (by kernel_rfl) (fun _ _ _ h => h) (Or.inl ⟨by rfl, ?yh9⟩) hHeld ?yr9
    case yh9 => intro y hSw; (try dsimp only at hSw); go_split_ands; go_simp; (try with_reducible rfl)
    (try simp only [Act.put, List.setIfInBounds_toArray, List.set_cons_zero, List.set_cons_succ])
    refine wpAnyH_take (i := 10) (oi := { dst := some 273, op := Go.Op.fieldAddr 77 (Go.Operand.tmp 272) 7, type := 0, pos := "law.go:133", after := #[{ on := 9, ground := Go.Ground.data }], guard := none }) (v := ?yv10) rfl (by kernel_rfl) (by kernel_rfl) (by kernel_rfl) (fun _ _ _ h => h) (Or.inl ⟨by rfl, ?yh10⟩) hHeld ?yr10
    case yh10 => intro y hSw; (try dsimp only at hSw); go_split_ands; go_simp; (try with_reducible rfl)
    (try simp only [Act.put, List.setIfInBounds_toArray, List.set_cons_zero, List.set_cons_succ])
    refine wpAnyH_take (i := 11) (oi := { dst := some 274, op := Go.Op.indexAddr 74 (Go.Operand.tmp 273) (Go.Operand.tmp 271), type := 0, pos := "law.go:133", after := #[{ on := 10, ground := Go.Ground.data }, { on := 8, ground := Go.Ground.data }], guard := none }) (v := ?yv11) rfl (by kernel_rfl) (by kernel_rfl) (by kernel_rfl) (fun _ _ _ h => h) (Or.inl ⟨by rfl, ?yh11⟩) hHeld ?yr11
    case yh11 => intro y hSw; (try dsimp only at hSw); go_split_ands; go_simp; (try with_reducible rfl)
    (try simp only [Act.put, List.setIfInBounds_toArray, List.set_cons_zero, List.set_cons_succ])
    refine wpAnyH_take (i := 12) (oi := { dst := some 275, op := Go.Op.load 73 (Go.Operand.tmp 274), type := 73, pos := "law.go:133", after := #[{ on := 11, ground := Go.Ground.data }], guard := none }) (v := ?yv12) rfl (by kernel_rfl) (by kernel_rfl) (by kernel_rfl) (fun _ _ _ h => h) (Or.inl ⟨by rfl, ?yh12⟩) hHeld ?yr12
    case yh12 => intro y hSw; (try dsimp only at hSw); go_split_ands; go_simp; (try with_reducible rfl)
    (try simp only [Act.put, List.setIfInBounds_toArray, List.set_cons_zero, List.set_cons_succ])
    refine wpAnyH_ready (rs := [6]) (by kernel_rfl) (by simp) ?_
    refine AllReadyH.cons (o := { dst := some 269, op := Go.Op.call { callee := Go.Callee.value (Go.Operand.func 55), args := #[Go.Operand.tmp 268], argTypes := #[41] }, type := 4, pos := "law.go:133", after := #[{ on := 5, ground := Go.Ground.data }], guard := none }) rfl (fun K' hK => ?_) AllReadyH.nil
    go_simp
    (go_at_call 55; refine (SP.out _ (by ((repeat' (first | (with_reducible exact Keeps.refl _) | (with_reducible assumption) | (with_reducible refine Keeps.drewN ?_ _) | (with_reducible refine Keeps.drew ?_) | (with_reducible refine Keeps.alloc ?_ _) | (with_reducible refine Keeps.setCell ?_ ?_ _) | (with_reducible refine Keeps.trans ?_ (After.keeps _)) | (with_reducible refine Keeps.trans ?_ (by with_reducible assumption)) | go_size)); (first | done | fail)))).mono ?_; rintro e w1 ⟨rfl, f, h⟩)
    clear hHeld
    have hHeld : (w1.cell? ⟨hb, 12 + i, none⟩ = some (.pointer (some ⟨y, 0, none⟩)) ∧ w1.cell? ⟨hb, 28 + i, none⟩ = some (.pointer (some ⟨x, 0, none⟩))) := ⟨h.hands.cellv cp.out, h.hands.cellv cx.out⟩
    refine hK.out _ _ hHeld (fun _ => ?_)
    clear hK K'
    (try simp only [Act.put, List.setIfInBounds_toArray, List.set_cons_zero, List.set_cons_succ])
    refine wpAnyH_ready (rs := [13]) (by kernel_rfl) (by simp) ?_
    refine AllReadyH.cons (o := { dst := some 276, op := Go.Op.call { callee := Go.Callee.value (Go.Operand.func 65), args := #[Go.Operand.tmp 275], argTypes := #[73] }, type := 4, pos := "law.go:133", after := #[{ on := 12, ground := Go.Ground.data }, { on := 6, ground := Go.Ground.chain }], guard := none }) rfl (fun K' hK => ?_) AllReadyH.nil
    go_simp
    (go_at_call 65; refine (SR.out _ _ h).mono ?_; rintro e w2 ⟨rfl, f2, h⟩)
    obtain ⟨⟨v2, -, hP⟩, d2, -, hX⟩ := h.bothP HC.out HK.out
    have hXh := hX.has
    rw [HD2.out] at hXh
    clear hHeld
    have hHeld : ((w2.cell? ⟨hb, 12 + i, none⟩ = some (.pointer (some ⟨y, 0, none⟩)) ∧ w2.cell? ⟨hb, 28 + i, none⟩ = some (.pointer (some ⟨x, 0, none⟩))) ∧ w2.cell? ⟨x, 4, none⟩ = some (.bool bo)) := ⟨⟨h.hands.cellv cp.out, h.hands.cellv cx.out⟩, hXh.cell 4⟩
    refine hK.out _ _ hHeld.1 (fun _ => ?_)
    refine hAnyH_mono (S' := fun u => ((u.cell? ⟨hb, 12 + i, none⟩ = some (.pointer (some ⟨y, 0, none⟩)) ∧ u.cell? ⟨hb, 28 + i, none⟩ = some (.pointer (some ⟨x, 0, none⟩))) ∧ u.cell? ⟨x, 4, none⟩ = some (.bool bo))) (fun _ h => h.1) _ _ _ _ ?_
    clear hK K'
    (try simp only [Act.put, List.setIfInBounds_toArray, List.set_cons_zero, List.set_cons_succ])
    refine wpAnyH_take (i := 14) (oi := { dst := some 277, op := Go.Op.binOp Go.BinOp.neq 4 (Go.Operand.tmp 269) (Go.Operand.tmp 276) 4, type := 4, pos := "law.go:133", after := #[{ on := 6, ground := Go.Ground.data }, { on := 13, ground := Go.Ground.data }], guard := none }) (v := ?yv14) rfl (by kernel_rfl) (by kernel_rfl) (by kernel_rfl) (fun _ _ _ h => h) (Or.inl ⟨by rfl, ?yh14⟩) hHeld ?yr14
    case yh14 => intro y hSw; (try dsimp only at hSw); go_split_ands; go_simp; (try with_reducible rfl)
    (try simp only [Act.put, List.setIfInBounds_toArray, List.set_cons_zero, List.set_cons_succ])
    refine wpAnyH_take (i := 15) (oi := { dst := some 278, op := Go.Op.move (Go.Operand.tmp 277), type := 4, pos := "law.go:133", after := #[{ on := 14, ground := Go.Ground.data }, { on := 13, ground := Go.Ground.chain }], guard := none }) (v := ?yv15) rfl (by kernel_rfl) (by kernel_rfl) (by kernel_rfl) (fun _ _ _ h => h) (Or.inl ⟨by rfl, ?yh15⟩) hHeld ?yr15
    case yh15 => intro y hSw; (try dsimp only at hSw); go_split_ands; go_simp; (try with_reducible rfl)
    (try simp only [Act.put, List.setIfInBounds_toArray, List.set_cons_zero, List.set_cons_succ])
    refine wpAnyH_take (i := 16) (oi := { dst := some 279, op := Go.Op.move (Go.Operand.tmp 0), type := 61, pos := "law.go:133", after := #[{ on := 15, ground := Go.Ground.guard }], guard := some (15, false) }) (v := ?yv16) rfl (by kernel_rfl) (by kernel_rfl) (by kernel_rfl) (fun _ _ _ h => h) (Or.inl ⟨by rfl, ?yh16⟩) hHeld ?yr16
    case yh16 => intro y hSw; (try dsimp only at hSw); go_split_ands; go_simp; (try with_reducible rfl)
    (try simp only [Act.put, List.setIfInBounds_toArray, List.set_cons_zero, List.set_cons_succ])
    refine wpAnyH_take (i := 17) (oi := { dst := some 280, op := Go.Op.move (Go.Operand.tmp 3), type := 3, pos := "law.go:133", after := #[{ on := 15, ground := Go.Ground.guard }], guard := some (15, false) }) (v := ?yv17) rfl (by kernel_rfl) (by kernel_rfl) (by kernel_rfl) (fun _ _ _ h => h) (Or.inl ⟨by rfl, ?yh17⟩) hHeld ?yr17
    case yh17 => intro y hSw; (try dsimp only at hSw); go_split_ands; go_simp; (try with_reducible rfl)
    (try simp only [Act.put, List.setIfInBounds_toArray, List.set_cons_zero, List.set_cons_succ])
    refine wpAnyH_take (i := 18) (oi := { dst := some 281, op := Go.Op.nilCheck (Go.Operand.tmp 279), type := 0, pos := "law.go:133", after := #[{ on := 16, ground := Go.Ground.data }, { on := 15, ground := Go.Ground.guard }], guard := some (15, false) }) (v := ?yv18) rfl (by kernel_rfl) (by kernel_rfl) (by kernel_rfl) (fun _ _ _ h => h) (Or.inl ⟨by rfl, ?yh18⟩) hHeld ?yr18
    case yh18 => intro y hSw; (try dsimp only at hSw); go_split_ands; go_simp; (try with_reducible rfl)
    (try simp only [Act.put, List.setIfInBounds_toArray, List.set_cons_zero, List.set_cons_succ])
    refine wpAnyH_take (i := 19) (oi := { dst := some 282, op := Go.Op.fieldAddr 77 (Go.Operand.tmp 281) 3, type := 0, pos := "law.go:133", after := #[{ on := 18, ground := Go.Ground.data }, { on := 15, ground := Go.Ground.guard }], guard := some (15, false) }) (v := ?yv19) rfl (by kernel_rfl) (by kernel_rfl) (by kernel_rfl) (fun _ _ _ h => h) (Or.inl ⟨by rfl, ?yh19⟩) hHeld ?yr19
    case yh19 => intro y hSw; (try dsimp only at hSw); go_split_ands; go_simp; (try with_reducible rfl)
    (try simp only [Act.put, List.setIfInBounds_toArray, List.set_cons_zero, List.set_cons_succ])
    refine wpAnyH_take (i := 20) (oi := { dst := some 283, op := Go.Op.indexAddr 66 (Go.Operand.tmp 282) (Go.Operand.tmp 280), type := 0, pos := "law.go:133", after := #[{ on := 19, ground := Go.Ground.data }, { on := 17, ground := Go.Ground.data }, { on := 15, ground := Go.Ground.guard }], guard := some (15, false) }) (v := ?yv20) rfl (by kernel_rfl) (by kernel_rfl) (by kernel_rfl) (fun _ _ _ h => h) (Or.inl ⟨by rfl, ?yh20⟩) hHeld ?yr20
    case yh20 => intro y hSw; (try dsimp only at hSw); go_split_ands; go_simp; (try with_reducible rfl)
    (try simp only [Act.put, List.setIfInBounds_toArray, List.set_cons_zero, List.set_cons_succ])
    refine wpAnyH_take (i := 21) (oi := { dst := some 284, op := Go.Op.load 41 (Go.Operand.tmp 283), type := 41, pos := "law.go:133", after := #[{ on := 20, ground := Go.Ground.data }, { on := 15, ground := Go.Ground.guard }], guard := some (15, false) }) (v := ?yv21) rfl (by kernel_rfl) (by kernel_rfl) (by kernel_rfl) (fun _ _ _ h => h) (Or.inl ⟨by rfl, ?yh21⟩) hHeld ?yr21
    case yh21 => intro y hSw; (try dsimp only at hSw); go_split_ands; go_simp; (try with_reducible rfl)
    (try simp only [Act.put, List.setIfInBounds_toArray, List.set_cons_zero, List.set_cons_succ])
    refine wpAnyH_take (i := 23) (oi := { dst := some 286, op := Go.Op.move (Go.Operand.tmp 0), type := 61, pos := "law.go:133", after := #[{ on := 15, ground := Go.Ground.guard }], guard := some (15, false) }) (v := ?yv23) rfl (by kernel_rfl) (by kernel_rfl) (by kernel_rfl) (fun _ _ _ h => h) (Or.inl ⟨by rfl, ?yh23⟩) hHeld ?yr23
    case yh23 => intro y hSw; (try dsimp only at hSw); go_split_ands; go_simp; (try with_reducible rfl)
    (try simp only [Act.put, List.setIfInBounds_toArray, List.set_cons_zero, List.set_cons_succ])
    refine wpAnyH_take (i := 24) (oi := { dst := some 287, op := Go.Op.move (Go.Operand.tmp 3), type := 3, pos := "law.go:133", after := #[{ on := 15, ground := Go.Ground.guard }], guard := some (15, false) }) (v := ?yv24) rfl (by kernel_rfl) (by kernel_rfl) (by kernel_rfl) (fun _ _ _ h => h) (Or.inl ⟨by rfl, ?yh24⟩) hHeld ?yr24
    case yh24 => intro y hSw; (try dsimp only at hSw); go_split_ands; go_simp; (try with_reducible rfl)
    (try simp only [Act.put, List.setIfInBounds_toArray, List.set_cons_zero, List.set_cons_succ])
    refine wpAnyH_take (i := 25) (oi := { dst := some 288, op := Go.Op.nilCheck (Go.Operand.tmp 286), type := 0, pos := "law.go:133", after := #[{ on := 23, ground := Go.Ground.data }, { on := 15, ground := Go.Ground.guard }], guard := some (15, false) }) (v := ?yv25) rfl (by kernel_rfl) (by kernel_rfl) (by kernel_rfl) (fun _ _ _ h => h) (Or.inl ⟨by rfl, ?yh25⟩) hHeld ?yr25
    case yh25 => intro y hSw; (try dsimp only at hSw); go_split_ands; go_simp; (try with_reducible rfl)
    (try simp only [Act.put, List.setIfInBounds_toArray, List.set_cons_zero, List.set_cons_succ])
    refine wpAnyH_take (i := 26) (oi := { dst := some 289, op := Go.Op.fieldAddr 77 (Go.Operand.tmp 288) 7, type := 0, pos := "law.go:133", after := #[{ on := 25, ground := Go.Ground.data }, { on := 15, ground := Go.Ground.guard }], guard := some (15, false) }) (v := ?yv26) rfl (by kernel_rfl) (by kernel_rfl) (by kernel_rfl) (fun _ _ _ h => h) (Or.inl ⟨by rfl, ?yh26⟩) hHeld ?yr26
    case yh26 => intro y hSw; (try dsimp only at hSw); go_split_ands; go_simp; (try with_reducible rfl)
    (try simp only [Act.put, List.setIfInBounds_toArray, List.set_cons_zero, List.set_cons_succ])
    refine wpAnyH_take (i := 27) (oi := { dst := some 290, op := Go.Op.indexAddr 74 (Go.Operand.tmp 289) (Go.Operand.tmp 287), type := 0, pos := "law.go:133", after := #[{ on := 26, ground := Go.Ground.data }, { on := 24, ground := Go.Ground.data }, { on := 15, ground := Go.Ground.guard }], guard := some (15, false) }) (v := ?yv27) rfl (by kernel_rfl) (by kernel_rfl) (by kernel_rfl) (fun _ _ _ h => h) (Or.inl ⟨by rfl, ?yh27⟩) hHeld ?yr27
    case yh27 => intro y hSw; (try dsimp only at hSw); go_split_ands; go_simp; (try with_reducible rfl)
    (try simp only [Act.put, List.setIfInBounds_toArray, List.set_cons_zero, List.set_cons_succ])
    refine wpAnyH_take (i := 28) (oi := { dst := some 291, op := Go.Op.load 73 (Go.Operand.tmp 290), type := 73, pos := "law.go:133", after := #[{ on := 27, ground := Go.Ground.data }, { on := 15, ground := Go.Ground.guard }], guard := some (15, false) }) (v := ?yv28) rfl (by kernel_rfl) (by kernel_rfl) (by kernel_rfl) (fun _ _ _ h => h) (Or.inl ⟨by rfl, ?yh28⟩) hHeld ?yr28
    case yh28 => intro y hSw; (try dsimp only at hSw); go_split_ands; go_simp; (try with_reducible rfl)
    (try simp only [Act.put, List.setIfInBounds_toArray, List.set_cons_zero, List.set_cons_succ])
    refine wpAnyH_take (i := 29) (oi := { dst := some 292, op := Go.Op.nilCheck (Go.Operand.tmp 291), type := 0, pos := "law.go:133", after := #[{ on := 28, ground := Go.Ground.data }, { on := 15, ground := Go.Ground.guard }], guard := some (15, false) }) (v := ?yv29) rfl (by kernel_rfl) (by kernel_rfl) (by kernel_rfl) (fun _ _ _ h => h) (Or.inl ⟨by rfl, ?yh29⟩) hHeld ?yr29
    case yh29 => intro y hSw; (try dsimp only at hSw); go_split_ands; go_simp; (try with_reducible rfl)
    (try simp only [Act.put, List.setIfInBounds_toArray, List.set_cons_zero, List.set_cons_succ])
    refine wpAnyH_take (i := 30) (oi := { dst := some 293, op := Go.Op.fieldAddr 133 (Go.Operand.tmp 292) 4, type := 0, pos := "law.go:133", after := #[{ on := 29, ground := Go.Ground.data }, { on := 15, ground := Go.Ground.guard }], guard := some (15, false) }) (v := ?yv30) rfl (by kernel_rfl) (by kernel_rfl) (by kernel_rfl) (fun _ _ _ h => h) (Or.inl ⟨by rfl, ?yh30⟩) hHeld ?yr30
    case yh30 => intro y hSw; (try dsimp only at hSw); go_split_ands; go_simp; (try with_reducible rfl)
    (try simp only [Act.put, List.setIfInBounds_toArray, List.set_cons_zero, List.set_cons_succ])
    refine wpAnyH_take (i := 31) (oi := { dst := some 294, op := Go.Op.load 4 (Go.Operand.tmp 293), type := 4, pos := "law.go:133", after := #[{ on := 30, ground := Go.Ground.data }, { on := 15, ground := Go.Ground.guard }], guard := some (15, false) }) (v := ?yv31) rfl (by kernel_rfl) (by kernel_rfl) (by kernel_rfl) (fun _ _ _ h => h) (Or.inl ⟨by rfl, ?yh31⟩) hHeld ?yr31
    case yh31 => intro y hSw; (try dsimp only at hSw); go_split_ands; go_simp; (try with_reducible rfl)
    (try simp only [Act.put, List.setIfInBounds_toArray, List.set_cons_zero, List.set_cons_succ])
    refine wpAnyH_ready (rs := [22]) (by kernel_rfl) (by simp) ?_
    refine AllReadyH.cons (o := { dst := some 285, op := Go.Op.call { callee := Go.Callee.value (Go.Operand.func 56), args := #[Go.Operand.tmp 284], argTypes := #[41] }, type := 4, pos := "law.go:133", after := #[{ on := 21, ground := Go.Ground.data }, { on := 15, ground := Go.Ground.chain }, { on := 15, ground := Go.Ground.guard }], guard := some (15, false) }) rfl (fun K' hK => ?_) AllReadyH.nil
    go_simp
    (go_at_call 56; refine (puDone_c hP).mono ?_; rintro e w3 ⟨rfl, rfl⟩; rw [HD2.out])
    refine hK.out _ _ hHeld (fun _ => ?_)
    clear hK K'
    (try simp only [Act.put, List.setIfInBounds_toArray, List.set_cons_zero, List.set_cons_succ])
    refine wpAnyH_take (i := 32) (oi := { dst := some 295, op := Go.Op.binOp Go.BinOp.neq 4 (Go.Operand.tmp 285) (Go.Operand.tmp 294) 4, type := 4, pos := "law.go:133", after := #[{ on := 22, ground := Go.Ground.data }, { on := 31, ground := Go.Ground.data }, { on := 15, ground := Go.Ground.guard }], guard := some (15, false) }) (v := ?yv32) rfl (by kernel_rfl) (by kernel_rfl) (by kernel_rfl) (fun _ _ _ h => h) (Or.inl ⟨by rfl, ?yh32⟩) hHeld ?yr32
    case yh32 => intro y hSw; (try dsimp only at hSw); go_split_ands; go_simp; (try with_reducible rfl)
    (try simp only [Act.put, List.setIfInBounds_toArray, List.set_cons_zero, List.set_cons_succ])
    refine wpAnyH_take (i := 33) (oi := { dst := some 296, op := Go.Op.pick (Go.Operand.tmp 278) (Go.Operand.const (Go.Value.bool true)) (Go.Operand.tmp 295), type := 4, pos := "law.go:133", after := #[{ on := 15, ground := Go.Ground.data }, { on := 32, ground := Go.Ground.data }], guard := none }) (v := ?yv33) rfl (by kernel_rfl) (by kernel_rfl) (by kernel_rfl) (fun _ _ _ h => h) (Or.inl ⟨by rfl, ?yh33⟩) hHeld ?yr33
    case yh33 => intro y hSw; (try dsimp only at hSw); go_split_ands; go_simp; (try with_reducible rfl)
    (try simp only [Act.put, List.setIfInBounds_toArray, List.set_cons_zero, List.set_cons_succ])
    refine wpAnyH_done (by kernel_rfl) ?_ _
    go_wp2
    go_meet
    case rel => exact ⟨rfl, f, f2, h⟩
  case rest =>
    obtain ⟨rfl, f, f2, h⟩ := hcut
    obtain ⟨⟨v2, -, hP⟩, d2, -, hX⟩ := h.bothP HC.out HK.out
    have hXh := hX.has
    rw [HD2.out] at hXh
    have FX_ := (hXh).facts; simp only [blockFacts, listFacts, cellsAt, Nat.reduceAdd, and_true, true_and, and_assoc] at FX_
    have hhn := h.hands.frozen (12 + i)
    have hhc := h.hands.cellv cp.out
    have hhx := h.hands.cellv cx.out
    cases bo with
    | false =>
      go_wp2
      go_ret
      exact ⟨rfl, HInv.go h HTi.out HAl.out HC.out HK.out hi4 (HPp.out _) (HXx.out _) (HKd.out _) HL.out ⟨HI.out, by have := of_decide_eq_false HD2.out; omega⟩ (by omega)⟩
    | true =>
      go_wp2
      go_ret
      exact ⟨rfl, by simpa using HInv.stop (a := 3) h HTi.out HAl.out HC.out HK.out hi4 (by omega) HKz.out HL.out (by omega)⟩
end
end Go.Proofs.YtaecapjicphdkaaGreat

/- RootsPlay: machines that begin. -/
namespace Go.Proofs.YtaecapjicphdkaaGreat
set_option linter.unusedVariables false
set_option linter.unusedSimpArgs false
open Go Go.RowKit
set_option maxRecDepth 100000
set_option maxHeartbeats 1000000

theorem RCrRep.mono {w : World} {B B' T P W Sp : Nat} {cls : Int} {s : Cr} (h : RCrRep w B T P W Sp cls (.slice none 0 0) s) (hg : s.pop.got = []) : RCrRep w B' T P W Sp cls (.slice none 0 0) s :=
  ⟨h.has, h.pop.has, by rw [hg]; exact Row.nil _ _ _⟩
theorem hcr0_inv (n : Nat) {C : Int} (hC : 0 ≤ C) : CrInv n C cr0 := (cr0_inv n).mono hC
theorem hpu_inv (n : Nat) {C z : Int} (hC : 0 ≤ C) (h0 : 0 ≤ z) (h1 : z < n) : PuInv n C ⟨1, 0, [z], 0, 0⟩ :=
  ⟨by simp, by simpa using ⟨h0, h1⟩, by simp, (fun h => by exact absurd (show (1 : Nat) = 0 from h) (by decide)), (by show (0 : Int) ≤ 0; omega), (by show (0 : Int) < 18446744073709551616; omega), (by show (0 : Int) ≤ 0; omega), hC⟩
theorem hen_inv {C : Int} (hC : 0 ≤ C) : EnInv C enOf0 := ⟨by show (0 : Int) ≤ 0; omega, by show (0 : Int) < 18446744073709551616; omega, by show (0 : Int) ≤ 0; omega, hC⟩
@[go_sem] theorem hroot_field0 (a b c d : Int) (w : World) : Sem.run Tryz.prog (Instr.field 125 (.agg #[.int .i64 a, .int .i64 b, .int .i64 c, .int .i64 d]) 0) w = .ok (.int .i64 a) w := by kernel_rfl
end Go.Proofs.YtaecapjicphdkaaGreat
