/- RootsPlay's goes, walked: a Look goes on. -/
import Derived.Test.YtaecapjicphdkaaGreatMg36
import Derived.Deep.RegionHeld3
namespace Go.Proofs.YtaecapjicphdkaaGreat
set_option linter.unusedVariables false
set_option linter.unusedSimpArgs false
open Go Go.RowKit
set_option maxRecDepth 100000
set_option maxHeartbeats 4000000

section
variable {w wr w' : World} {m b R S W g gb Sp hb n : Nat} {l : List Int} {cc C : Int} {H : List Value} {cs : List HLoc} {ws : List HWs} {i : Nat} {c : HLoc} {k : HWs} {slot gen : Int}
theorem HA.bothL {cd ofs : Int} {l' : List Int} {f f2 : List Nat} {y x : Nat} (h : HA w wr m b R S W g gb Sp hb n l' l' (cc + 1) (cc + 1) H (cs.set i ⟨y :: f, x :: f2, c.h⟩) ((hks ws).set i ⟨.ld slot gen cd ofs, .ld slot gen cd ofs, k.has⟩)) (hc : cs[i]? = some c) (hk : ws[i]? = some k) :
    (f = [] ∧ Has wr y (lookOf (nxt none y) 1 R slot gen cd ofs) 114) ∧ f2 = [] ∧ Has wr x (rlookOf W slot gen ofs cd true) 131 := by
  have hl := (List.getElem?_eq_some_iff.1 hc).1
  have hl2 : i < (hks ws).length := by simp [hks]; exact (List.getElem?_eq_some_iff.1 hk).1
  obtain ⟨pm, rm, -⟩ := h.gang.rep i _ _ (List.getElem?_set_self hl) (List.getElem?_set_self hl2)
  obtain ⟨y', ep, hp⟩ := pm
  obtain ⟨x', ex, hx⟩ := rm
  dsimp only at ep ex
  cases ep; cases ex
  exact ⟨⟨rfl, hp⟩, rfl, hx⟩
theorem goes_lk (v : Int) (h : HA w wr m b R S W g gb Sp hb n l l cc cc H cs (hks ws)) (ti : HTies H cs ws) (A : HAll n C l ws) (hcc : cc ≤ C) (hC : C ≤ 1000) (hc : cs[i]? = some c) (hk : ws[i]? = some k) (hmd : k.md = .lk slot gen) (hi4 : i < 4) (n1 : 1 ≤ n) (n4 : n ≤ 4) :
    Calls Tryz.prog 24 #[.pointer (some ⟨hb, 0, none⟩), .pointer (some ⟨R, 0, none⟩), .pointer (some ⟨W, 0, none⟩), .int .i64 i, .int .i64 v] wr fun e w' => e = .returned (.bool true) ∧ HInv w w' m b R S W g gb Sp hb n (C + 1) := by
  have hks := hks_at hk
  have P := h.gang.rep i c _ hc hks
  have pm := P.md
  have rm := P.rmd
  dsimp only at pm rm
  rw [hmd] at pm rm
  obtain ⟨y, ep, -⟩ := pm
  obtain ⟨x, ex, -⟩ := rm
  have hpp : c.p.head? = some y := by rw [ep]; rfl
  have hxx : c.x.head? = some x := by rw [ex]; rfl
  obtain ⟨mo, hit, hln⟩ := A.md i k hk
  rw [hmd] at mo
  obtain ⟨s0, s1⟩ := mo
  have T := ti i c k hi4 hc hk
  have cn : Hid (H.toArray[i]? = some (.pointer none)) := Lib.hid (by have := T.p 0 (by omega); rw [hmd] at this; simpa [hkind] using this)
  have cn1 : Hid (H.toArray[4 + i]? = some (.pointer none)) := Lib.hid (by have := T.p 1 (by omega); rw [hmd] at this; simpa [hkind] using this)
  have cp : Hid (H.toArray[8 + i]? = some (.pointer (some ⟨y, 0, none⟩))) := Lib.hid (by have := T.p 2 (by omega); rw [hmd, hpp] at this; simpa [hkind, optr] using this)
  have cx : Hid (H.toArray[24 + i]? = some (.pointer (some ⟨x, 0, none⟩))) := Lib.hid (by have := T.x 2 (by omega) (by rw [hmd]; rfl); rw [hxx] at this; simpa [optr] using this)
  have hh := h.hands
  have c0 := hh.cellv cn.out
  have c01 := hh.cellv cn1.out
  have c1 := hh.cellv cp.out
  have c2 := hh.cellv cx.out
  have i0 : (0 : Int) ≤ (i : Int) := by omega
  have i4 : (i : Int) < 4 := by omega
  obtain ⟨cd, hcd⟩ : ∃ cd, lkCd gen (l.getD (4 + slot.toNat) 0) = cd := ⟨_, rfl⟩
  obtain ⟨ofs, hofs⟩ : ∃ ofs, lkOf gen (l.getD (4 + slot.toNat) 0) = ofs := ⟨_, rfl⟩
  have SP : Hid (∀ w1, Keeps wr w1 → Calls Tryz.prog 21 #[.pointer (some ⟨y, 0, none⟩)] w1 fun e w' => e = .returned (.bool true) ∧ ∃ f, HA w w' m b R S W g gb Sp hb n l l (cc + 1) cc H (cs.set i ⟨y :: f, c.x, c.h⟩) ((Go.Proofs.YtaecapjicphdkaaGreat.hks ws).set i ⟨.ld slot gen cd ofs, k.md, k.has⟩)) :=
    Lib.hid (fun w1 hk1 => by
      have := (h.later hk1).lkP hc hks hmd hpp n1 n4 A.ok s0 s1 (by omega)
      rw [hcd, hofs] at this
      exact this)
  have hcl := (List.getElem?_eq_some_iff.1 hc).1
  have hwl := (List.getElem?_eq_some_iff.1 hk).1
  have hkl : i < (Go.Proofs.YtaecapjicphdkaaGreat.hks ws).length := by simp [Go.Proofs.YtaecapjicphdkaaGreat.hks]; exact hwl
  have SR : Hid (∀ w2 f, HA w w2 m b R S W g gb Sp hb n l l (cc + 1) cc H (cs.set i ⟨y :: f, c.x, c.h⟩) ((Go.Proofs.YtaecapjicphdkaaGreat.hks ws).set i ⟨.ld slot gen cd ofs, k.md, k.has⟩) → Calls Tryz.prog 63 #[.pointer (some ⟨x, 0, none⟩)] w2 fun e w' => e = .returned (.bool true) ∧ ∃ f2, HA w w' m b R S W g gb Sp hb n l l (cc + 1) (cc + 1) H (cs.set i ⟨y :: f, x :: f2, c.h⟩) ((Go.Proofs.YtaecapjicphdkaaGreat.hks ws).set i ⟨.ld slot gen cd ofs, .ld slot gen cd ofs, k.has⟩)) :=
    Lib.hid (fun w2 f h2 => by
      have := h2.lkR (List.getElem?_set_self hcl) (List.getElem?_set_self hkl) hmd hxx n1 n4 A.ok s0 s1 (by omega)
      rw [hcd, hofs] at this
      simp only [List.set_set] at this
      exact this)
  have HC := Lib.hid hc
  have HK := Lib.hid hk
  have HTi := Lib.hid ti
  have HAl := Lib.hid A
  have HKz : Hid (hkind k.md = 2) := Lib.hid (by rw [hmd]; rfl)
  clear hcd hofs hc hk ti A T P ep ex hpp hxx hmd hit hln
  go_enter Tryz.func24, Tryz.ntmps24
  go_upto_region 22 with fail
  go_region_held3 (fun u => u.cell? ⟨hb, 8 + i, none⟩ = some (.pointer (some ⟨y, 0, none⟩)) ∧ u.cell? ⟨hb, 24 + i, none⟩ = some (.pointer (some ⟨x, 0, none⟩))) (first | exact ⟨c1, c2⟩) (fail)
  go_wp2
  go_cut [249] (fun t wc => t = .bool false ∧ ∃ f f2, HA w wc m b R S W g gb Sp hb n l l (cc + 1) (cc + 1) H (cs.set i ⟨y :: f, x :: f2, c.h⟩) ((Go.Proofs.YtaecapjicphdkaaGreat.hks ws).set i ⟨.ld slot gen cd ofs, .ld slot gen cd ofs, k.has⟩))
  case first =>
    refine wp_region_held_drew (S := fun _ => True) (by kernel_rfl) trivial (fun hHeld => ?_)
    refine wpAnyH_take (i := 0) (oi := { dst := some 222, op := Go.Op.move (Go.Operand.tmp 17), type := 35, pos := "law.go:128", after := #[], guard := none }) (v := ?yv0) rfl (by kernel_rfl) (by kernel_rfl) (by kernel_rfl) (fun _ _ _ h => h) (Or.inl ⟨by rfl, ?yh0⟩) hHeld ?yr0
    case yh0 => intro y hSw; (try dsimp only at hSw); go_split_ands; go_simp; (try with_reducible rfl)
    (try simp only [Act.put, List.setIfInBounds_toArray, List.set_cons_zero, List.set_cons_succ])
    refine wpAnyH_take (i := 2) (oi := { dst := some 224, op := Go.Op.move (Go.Operand.tmp 18), type := 71, pos := "law.go:128", after := #[], guard := none }) (v := ?yv2) rfl (by kernel_rfl) (by kernel_rfl) (by kernel_rfl) (fun _ _ _ h => h) (Or.inl ⟨by rfl, ?yh2⟩) hHeld ?yr2
    case yh2 => intro y hSw; (try dsimp only at hSw); go_split_ands; go_simp; (try with_reducible rfl)
    (try simp only [Act.put, List.setIfInBounds_toArray, List.set_cons_zero, List.set_cons_succ])
    refine wpAnyH_ready (rs := [1]) (by kernel_rfl) (by simp) ?_
    refine AllReadyH.cons (o := { dst := some 223, op := Go.Op.call { callee := Go.Callee.value (Go.Operand.func 21), args := #[Go.Operand.tmp 222], argTypes := #[35] }, type := 4, pos := "law.go:128", after := #[{ on := 0, ground := Go.Ground.data }], guard := none }) rfl (fun K' hK => ?_) AllReadyH.nil
    go_simp
    (go_at_call 21; refine (SP.out _ (by ((repeat' (first | (with_reducible exact Keeps.refl _) | (with_reducible assumption) | (with_reducible refine Keeps.drewN ?_ _) | (with_reducible refine Keeps.drew ?_) | (with_reducible refine Keeps.alloc ?_ _) | (with_reducible refine Keeps.setCell ?_ ?_ _) | (with_reducible refine Keeps.trans ?_ (After.keeps _)) | (with_reducible refine Keeps.trans ?_ (by with_reducible assumption)) | go_size)); (first | done | fail)))).mono ?_; rintro e w1 ⟨rfl, f, h⟩)
    refine hK.out _ _ trivial (fun _ => ?_)
    clear hHeld
    have hHeld : True := trivial
    clear hK K'
    (try simp only [Act.put, List.setIfInBounds_toArray, List.set_cons_zero, List.set_cons_succ])
    refine wpAnyH_ready (rs := [3]) (by kernel_rfl) (by simp) ?_
    refine AllReadyH.cons (o := { dst := some 225, op := Go.Op.call { callee := Go.Callee.value (Go.Operand.func 63), args := #[Go.Operand.tmp 224], argTypes := #[71] }, type := 4, pos := "law.go:128", after := #[{ on := 2, ground := Go.Ground.data }, { on := 1, ground := Go.Ground.chain }], guard := none }) rfl (fun K' hK => ?_) AllReadyH.nil
    go_simp
    (go_at_call 63; refine (SR.out _ _ h).mono ?_; rintro e w2 ⟨rfl, f2, h⟩)
    obtain ⟨⟨-, hP⟩, -, hX⟩ := h.bothL HC.out HK.out
    refine hK.out _ _ trivial (fun _ => ?_)
    clear hHeld
    refine hAnyH_mono (S' := fun u => (u.cell? ⟨x, 4, none⟩ = some (.int .i64 cd) ∧ u.cell? ⟨x, 3, none⟩ = some (.int .i64 ofs))) (fun _ _ => trivial) _ _ _ _ ?_
    have hHeld : (w2.cell? ⟨x, 4, none⟩ = some (.int .i64 cd) ∧ w2.cell? ⟨x, 3, none⟩ = some (.int .i64 ofs)) := ⟨hX.cell 4, hX.cell 3⟩
    clear hK K'
    (try simp only [Act.put, List.setIfInBounds_toArray, List.set_cons_zero, List.set_cons_succ])
    refine wpAnyH_take (i := 4) (oi := { dst := some 226, op := Go.Op.binOp Go.BinOp.neq 4 (Go.Operand.tmp 223) (Go.Operand.tmp 225) 4, type := 4, pos := "law.go:128", after := #[{ on := 1, ground := Go.Ground.data }, { on := 3, ground := Go.Ground.data }], guard := none }) (v := ?yv4) rfl (by kernel_rfl) (by kernel_rfl) (by kernel_rfl) (fun _ _ _ h => h) (Or.inl ⟨by rfl, ?yh4⟩) hHeld ?yr4
    case yh4 => intro y hSw; (try dsimp only at hSw); go_split_ands; go_simp; (try with_reducible rfl)
    (try simp only [Act.put, List.setIfInBounds_toArray, List.set_cons_zero, List.set_cons_succ])
    refine wpAnyH_take (i := 5) (oi := { dst := some 227, op := Go.Op.move (Go.Operand.tmp 226), type := 4, pos := "law.go:128", after := #[{ on := 4, ground := Go.Ground.data }, { on := 3, ground := Go.Ground.chain }], guard := none }) (v := ?yv5) rfl (by kernel_rfl) (by kernel_rfl) (by kernel_rfl) (fun _ _ _ h => h) (Or.inl ⟨by rfl, ?yh5⟩) hHeld ?yr5
    case yh5 => intro y hSw; (try dsimp only at hSw); go_split_ands; go_simp; (try with_reducible rfl)
    (try simp only [Act.put, List.setIfInBounds_toArray, List.set_cons_zero, List.set_cons_succ])
    refine wpAnyH_take (i := 6) (oi := { dst := some 228, op := Go.Op.move (Go.Operand.tmp 17), type := 35, pos := "law.go:128", after := #[{ on := 5, ground := Go.Ground.guard }], guard := some (5, false) }) (v := ?yv6) rfl (by kernel_rfl) (by kernel_rfl) (by kernel_rfl) (fun _ _ _ h => h) (Or.inl ⟨by rfl, ?yh6⟩) hHeld ?yr6
    case yh6 => intro y hSw; (try dsimp only at hSw); go_split_ands; go_simp; (try with_reducible rfl)
    (try simp only [Act.put, List.setIfInBounds_toArray, List.set_cons_zero, List.set_cons_succ])
    refine wpAnyH_ready (rs := [7]) (by kernel_rfl) (by simp) ?_
    refine AllReadyH.cons (o := { dst := some 229, op := Go.Op.call { callee := Go.Callee.value (Go.Operand.func 22), args := #[Go.Operand.tmp 228], argTypes := #[35] }, type := 4, pos := "law.go:128", after := #[{ on := 6, ground := Go.Ground.data }, { on := 5, ground := Go.Ground.chain }, { on := 5, ground := Go.Ground.guard }], guard := some (5, false) }) rfl (fun K' hK => ?_) AllReadyH.nil
    go_simp
    (go_at_call 22; refine (lkDone_c (o := none) hP).mono ?_; rintro e w3 ⟨rfl, rfl⟩)
    refine hK.out _ _ hHeld (fun _ => ?_)
    clear hK K'
    (try simp only [Act.put, List.setIfInBounds_toArray, List.set_cons_zero, List.set_cons_succ])
    refine wpAnyH_take (i := 8) (oi := { dst := some 230, op := Go.Op.unOp Go.UnOp.not 4 (Go.Operand.tmp 229), type := 4, pos := "law.go:128", after := #[{ on := 7, ground := Go.Ground.data }, { on := 5, ground := Go.Ground.guard }], guard := some (5, false) }) (v := ?yv8) rfl (by kernel_rfl) (by kernel_rfl) (by kernel_rfl) (fun _ _ _ h => h) (Or.inl ⟨by rfl, ?yh8⟩) hHeld ?yr8
    case yh8 => intro y hSw; (try dsimp only at hSw); go_split_ands; go_simp; (try with_reducible rfl)
    (try simp only [Act.put, List.setIfInBounds_toArray, List.set_cons_zero, List.set_cons_succ])
    refine wpAnyH_take (i := 9) (oi := { dst := some 231, op := Go.Op.pick (Go.Operand.tmp 227) (Go.Operand.const (Go.Value.bool true)) (Go.Operand.tmp 230), type := 4, pos := "law.go:128", after := #[{ on := 5, ground := Go.Ground.data }, { on := 8, ground := Go.Ground.data }], guard := none }) (v := ?yv9) rfl (by kernel_rfl) (by kernel_rfl) (by kernel_rfl) (fun _ _ _ h => h) (Or.inl ⟨by rfl, ?yh9⟩) hHeld ?yr9
    case yh9 => intro y hSw; (try dsimp only at hSw); go_split_ands; go_simp; (try with_reducible rfl)
    (try simp only [Act.put, List.setIfInBounds_toArray, List.set_cons_zero, List.set_cons_succ])
    refine wpAnyH_take (i := 10) (oi := { dst := some 232, op := Go.Op.move (Go.Operand.tmp 231), type := 4, pos := "law.go:128", after := #[{ on := 9, ground := Go.Ground.data }, { on := 7, ground := Go.Ground.chain }], guard := none }) (v := ?yv10) rfl (by kernel_rfl) (by kernel_rfl) (by kernel_rfl) (fun _ _ _ h => h) (Or.inl ⟨by rfl, ?yh10⟩) hHeld ?yr10
    case yh10 => intro y hSw; (try dsimp only at hSw); go_split_ands; go_simp; (try with_reducible rfl)
    (try simp only [Act.put, List.setIfInBounds_toArray, List.set_cons_zero, List.set_cons_succ])
    refine wpAnyH_take (i := 11) (oi := { dst := some 233, op := Go.Op.move (Go.Operand.tmp 17), type := 35, pos := "law.go:128", after := #[{ on := 10, ground := Go.Ground.guard }], guard := some (10, false) }) (v := ?yv11) rfl (by kernel_rfl) (by kernel_rfl) (by kernel_rfl) (fun _ _ _ h => h) (Or.inl ⟨by rfl, ?yh11⟩) hHeld ?yr11
    case yh11 => intro y hSw; (try dsimp only at hSw); go_split_ands; go_simp; (try with_reducible rfl)
    (try simp only [Act.put, List.setIfInBounds_toArray, List.set_cons_zero, List.set_cons_succ])
    refine wpAnyH_take (i := 13) (oi := { dst := some 235, op := Go.Op.move (Go.Operand.tmp 18), type := 71, pos := "law.go:128", after := #[{ on := 10, ground := Go.Ground.guard }], guard := some (10, false) }) (v := ?yv13) rfl (by kernel_rfl) (by kernel_rfl) (by kernel_rfl) (fun _ _ _ h => h) (Or.inl ⟨by rfl, ?yh13⟩) hHeld ?yr13
    case yh13 => intro y hSw; (try dsimp only at hSw); go_split_ands; go_simp; (try with_reducible rfl)
    (try simp only [Act.put, List.setIfInBounds_toArray, List.set_cons_zero, List.set_cons_succ])
    refine wpAnyH_take (i := 14) (oi := { dst := some 236, op := Go.Op.nilCheck (Go.Operand.tmp 235), type := 0, pos := "law.go:128", after := #[{ on := 13, ground := Go.Ground.data }, { on := 10, ground := Go.Ground.guard }], guard := some (10, false) }) (v := ?yv14) rfl (by kernel_rfl) (by kernel_rfl) (by kernel_rfl) (fun _ _ _ h => h) (Or.inl ⟨by rfl, ?yh14⟩) hHeld ?yr14
    case yh14 => intro y hSw; (try dsimp only at hSw); go_split_ands; go_simp; (try with_reducible rfl)
    (try simp only [Act.put, List.setIfInBounds_toArray, List.set_cons_zero, List.set_cons_succ])
    refine wpAnyH_take (i := 15) (oi := { dst := some 237, op := Go.Op.fieldAddr 131 (Go.Operand.tmp 236) 4, type := 0, pos := "law.go:128", after := #[{ on := 14, ground := Go.Ground.data }, { on := 10, ground := Go.Ground.guard }], guard := some (10, false) }) (v := ?yv15) rfl (by kernel_rfl) (by kernel_rfl) (by kernel_rfl) (fun _ _ _ h => h) (Or.inl ⟨by rfl, ?yh15⟩) hHeld ?yr15
    case yh15 => intro y hSw; (try dsimp only at hSw); go_split_ands; go_simp; (try with_reducible rfl)
    (try simp only [Act.put, List.setIfInBounds_toArray, List.set_cons_zero, List.set_cons_succ])
    refine wpAnyH_take (i := 16) (oi := { dst := some 238, op := Go.Op.load 28 (Go.Operand.tmp 237), type := 28, pos := "law.go:128", after := #[{ on := 15, ground := Go.Ground.data }, { on := 10, ground := Go.Ground.guard }], guard := some (10, false) }) (v := ?yv16) rfl (by kernel_rfl) (by kernel_rfl) (by kernel_rfl) (fun _ _ _ h => h) (Or.inl ⟨by rfl, ?yh16⟩) hHeld ?yr16
    case yh16 => intro y hSw; (try dsimp only at hSw); go_split_ands; go_simp; (try with_reducible rfl)
    (try simp only [Act.put, List.setIfInBounds_toArray, List.set_cons_zero, List.set_cons_succ])
    refine wpAnyH_ready (rs := [12]) (by kernel_rfl) (by simp) ?_
    refine AllReadyH.cons (o := { dst := some 234, op := Go.Op.call { callee := Go.Callee.value (Go.Operand.func 23), args := #[Go.Operand.tmp 233], argTypes := #[35] }, type := 28, pos := "law.go:128", after := #[{ on := 11, ground := Go.Ground.data }, { on := 10, ground := Go.Ground.chain }, { on := 10, ground := Go.Ground.guard }], guard := some (10, false) }) rfl (fun K' hK => ?_) AllReadyH.nil
    go_simp
    (go_at_call 23; refine (lkCode_c hP).mono ?_; rintro e w3 ⟨rfl, rfl⟩)
    refine hK.out _ _ hHeld (fun _ => ?_)
    clear hK K'
    (try simp only [Act.put, List.setIfInBounds_toArray, List.set_cons_zero, List.set_cons_succ])
    refine wpAnyH_take (i := 17) (oi := { dst := some 239, op := Go.Op.binOp Go.BinOp.neq 28 (Go.Operand.tmp 234) (Go.Operand.tmp 238) 28, type := 4, pos := "law.go:128", after := #[{ on := 12, ground := Go.Ground.data }, { on := 16, ground := Go.Ground.data }, { on := 10, ground := Go.Ground.guard }], guard := some (10, false) }) (v := ?yv17) rfl (by kernel_rfl) (by kernel_rfl) (by kernel_rfl) (fun _ _ _ h => h) (Or.inl ⟨by rfl, ?yh17⟩) hHeld ?yr17
    case yh17 => intro y hSw; (try dsimp only at hSw); go_split_ands; go_simp; (try with_reducible rfl)
    (try simp only [Act.put, List.setIfInBounds_toArray, List.set_cons_zero, List.set_cons_succ])
    refine wpAnyH_take (i := 18) (oi := { dst := some 240, op := Go.Op.pick (Go.Operand.tmp 232) (Go.Operand.const (Go.Value.bool true)) (Go.Operand.tmp 239), type := 4, pos := "law.go:128", after := #[{ on := 10, ground := Go.Ground.data }, { on := 17, ground := Go.Ground.data }], guard := none }) (v := ?yv18) rfl (by kernel_rfl) (by kernel_rfl) (by kernel_rfl) (fun _ _ _ h => h) (Or.inl ⟨by rfl, ?yh18⟩) hHeld ?yr18
    case yh18 => intro y hSw; (try dsimp only at hSw); go_split_ands; go_simp; (try with_reducible rfl)
    (try simp only [Act.put, List.setIfInBounds_toArray, List.set_cons_zero, List.set_cons_succ])
    refine wpAnyH_take (i := 19) (oi := { dst := some 241, op := Go.Op.move (Go.Operand.tmp 240), type := 4, pos := "law.go:128", after := #[{ on := 18, ground := Go.Ground.data }, { on := 12, ground := Go.Ground.chain }], guard := none }) (v := ?yv19) rfl (by kernel_rfl) (by kernel_rfl) (by kernel_rfl) (fun _ _ _ h => h) (Or.inl ⟨by rfl, ?yh19⟩) hHeld ?yr19
    case yh19 => intro y hSw; (try dsimp only at hSw); go_split_ands; go_simp; (try with_reducible rfl)
    (try simp only [Act.put, List.setIfInBounds_toArray, List.set_cons_zero, List.set_cons_succ])
    refine wpAnyH_take (i := 20) (oi := { dst := some 242, op := Go.Op.move (Go.Operand.tmp 17), type := 35, pos := "law.go:128", after := #[{ on := 19, ground := Go.Ground.guard }], guard := some (19, false) }) (v := ?yv20) rfl (by kernel_rfl) (by kernel_rfl) (by kernel_rfl) (fun _ _ _ h => h) (Or.inl ⟨by rfl, ?yh20⟩) hHeld ?yr20
    case yh20 => intro y hSw; (try dsimp only at hSw); go_split_ands; go_simp; (try with_reducible rfl)
    (try simp only [Act.put, List.setIfInBounds_toArray, List.set_cons_zero, List.set_cons_succ])
    refine wpAnyH_take (i := 22) (oi := { dst := some 244, op := Go.Op.move (Go.Operand.tmp 18), type := 71, pos := "law.go:128", after := #[{ on := 19, ground := Go.Ground.guard }], guard := some (19, false) }) (v := ?yv22) rfl (by kernel_rfl) (by kernel_rfl) (by kernel_rfl) (fun _ _ _ h => h) (Or.inl ⟨by rfl, ?yh22⟩) hHeld ?yr22
    case yh22 => intro y hSw; (try dsimp only at hSw); go_split_ands; go_simp; (try with_reducible rfl)
    (try simp only [Act.put, List.setIfInBounds_toArray, List.set_cons_zero, List.set_cons_succ])
    refine wpAnyH_take (i := 23) (oi := { dst := some 245, op := Go.Op.nilCheck (Go.Operand.tmp 244), type := 0, pos := "law.go:128", after := #[{ on := 22, ground := Go.Ground.data }, { on := 19, ground := Go.Ground.guard }], guard := some (19, false) }) (v := ?yv23) rfl (by kernel_rfl) (by kernel_rfl) (by kernel_rfl) (fun _ _ _ h => h) (Or.inl ⟨by rfl, ?yh23⟩) hHeld ?yr23
    case yh23 => intro y hSw; (try dsimp only at hSw); go_split_ands; go_simp; (try with_reducible rfl)
    (try simp only [Act.put, List.setIfInBounds_toArray, List.set_cons_zero, List.set_cons_succ])
    refine wpAnyH_take (i := 24) (oi := { dst := some 246, op := Go.Op.fieldAddr 131 (Go.Operand.tmp 245) 3, type := 0, pos := "law.go:128", after := #[{ on := 23, ground := Go.Ground.data }, { on := 19, ground := Go.Ground.guard }], guard := some (19, false) }) (v := ?yv24) rfl (by kernel_rfl) (by kernel_rfl) (by kernel_rfl) (fun _ _ _ h => h) (Or.inl ⟨by rfl, ?yh24⟩) hHeld ?yr24
    case yh24 => intro y hSw; (try dsimp only at hSw); go_split_ands; go_simp; (try with_reducible rfl)
    (try simp only [Act.put, List.setIfInBounds_toArray, List.set_cons_zero, List.set_cons_succ])
    refine wpAnyH_take (i := 25) (oi := { dst := some 247, op := Go.Op.load 3 (Go.Operand.tmp 246), type := 3, pos := "law.go:128", after := #[{ on := 24, ground := Go.Ground.data }, { on := 19, ground := Go.Ground.guard }], guard := some (19, false) }) (v := ?yv25) rfl (by kernel_rfl) (by kernel_rfl) (by kernel_rfl) (fun _ _ _ h => h) (Or.inl ⟨by rfl, ?yh25⟩) hHeld ?yr25
    case yh25 => intro y hSw; (try dsimp only at hSw); go_split_ands; go_simp; (try with_reducible rfl)
    (try simp only [Act.put, List.setIfInBounds_toArray, List.set_cons_zero, List.set_cons_succ])
    refine wpAnyH_ready (rs := [21]) (by kernel_rfl) (by simp) ?_
    refine AllReadyH.cons (o := { dst := some 243, op := Go.Op.call { callee := Go.Callee.value (Go.Operand.func 64), args := #[Go.Operand.tmp 242], argTypes := #[35] }, type := 3, pos := "law.go:128", after := #[{ on := 20, ground := Go.Ground.data }, { on := 19, ground := Go.Ground.chain }, { on := 19, ground := Go.Ground.guard }], guard := some (19, false) }) rfl (fun K' hK => ?_) AllReadyH.nil
    go_simp
    (go_at_call 64; refine (lkOff_c hP).mono ?_; rintro e w3 ⟨rfl, rfl⟩)
    refine hK.out _ _ hHeld (fun _ => ?_)
    clear hK K'
    (try simp only [Act.put, List.setIfInBounds_toArray, List.set_cons_zero, List.set_cons_succ])
    refine wpAnyH_take (i := 26) (oi := { dst := some 248, op := Go.Op.binOp Go.BinOp.neq 3 (Go.Operand.tmp 243) (Go.Operand.tmp 247) 3, type := 4, pos := "law.go:128", after := #[{ on := 21, ground := Go.Ground.data }, { on := 25, ground := Go.Ground.data }, { on := 19, ground := Go.Ground.guard }], guard := some (19, false) }) (v := ?yv26) rfl (by kernel_rfl) (by kernel_rfl) (by kernel_rfl) (fun _ _ _ h => h) (Or.inl ⟨by rfl, ?yh26⟩) hHeld ?yr26
    case yh26 => intro y hSw; (try dsimp only at hSw); go_split_ands; go_simp; (try with_reducible rfl)
    (try simp only [Act.put, List.setIfInBounds_toArray, List.set_cons_zero, List.set_cons_succ])
    refine wpAnyH_take (i := 27) (oi := { dst := some 249, op := Go.Op.pick (Go.Operand.tmp 241) (Go.Operand.const (Go.Value.bool true)) (Go.Operand.tmp 248), type := 4, pos := "law.go:128", after := #[{ on := 19, ground := Go.Ground.data }, { on := 26, ground := Go.Ground.data }], guard := none }) (v := ?yv27) rfl (by kernel_rfl) (by kernel_rfl) (by kernel_rfl) (fun _ _ _ h => h) (Or.inl ⟨by rfl, ?yh27⟩) hHeld ?yr27
    case yh27 => intro y hSw; (try dsimp only at hSw); go_split_ands; go_simp; (try with_reducible rfl)
    (try simp only [Act.put, List.setIfInBounds_toArray, List.set_cons_zero, List.set_cons_succ])
    refine wpAnyH_done (by kernel_rfl) ?_ _
    go_wp2
    go_meet
    case rel => exact ⟨rfl, f, f2, h⟩
  case rest =>
    obtain ⟨rfl, f, f2, h⟩ := hcut
    have hhn := h.hands.frozen (8 + i)
    have hhc := h.hands.cellv cp.out
    go_wp2
    go_ret
    exact ⟨rfl, by simpa using HInv.stop (a := 2) h HTi.out HAl.out HC.out HK.out hi4 (by omega) HKz.out HAl.out.ok (by omega)⟩
end
end Go.Proofs.YtaecapjicphdkaaGreat
