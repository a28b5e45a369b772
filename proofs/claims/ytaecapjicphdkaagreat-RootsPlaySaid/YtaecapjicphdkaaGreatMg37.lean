/- RootsPlay's goes, walked: a Create goes on. -/
import Derived.Test.YtaecapjicphdkaaGreatMg36
import Derived.Deep.RegionHeld3
import Derived.Deep.RegionLaw
import Derived.Deep.QuietTactic
import Derived.BigQuiet
namespace Go.Proofs.YtaecapjicphdkaaGreat
set_option linter.unusedVariables false
set_option linter.unusedSimpArgs false
open Go Go.RowKit
set_option maxRecDepth 100000
set_option maxHeartbeats 4000000

section
variable {w wr w' : World} {m b R S W g gb Sp hb n : Nat} {l : List Int} {cc C : Int} {H : List Value} {cs : List HLoc} {ws : List HWs} {i : Nat} {c : HLoc} {k : HWs} {cls slot gen : Int}
theorem HA.both {s' : Cr} {l' : List Int} {f f2 : List Nat} {y x : Nat} (h : HA w wr m b R S W g gb Sp hb n l' l' (cc + 1) (cc + 1) H (cs.set i ⟨y :: f, x :: f2, c.h⟩) ((hks ws).set i ⟨.cr cls s', .cr cls s', k.has⟩)) (hc : cs[i]? = some c) (hk : ws[i]? = some k) :
    (∃ pg v, f = pg :: ownB v ∧ CrRep wr w.heap.size y pg R S cls v s') ∧ (∃ pg v, f2 = pg :: ownB v ∧ RCrRep wr w.heap.size x pg W Sp cls v s') := by
  have hl := (List.getElem?_eq_some_iff.1 hc).1
  have hl2 : i < (hks ws).length := by simp [hks]; exact (List.getElem?_eq_some_iff.1 hk).1
  obtain ⟨pm, rm, -⟩ := h.gang.rep i _ _ (List.getElem?_set_self hl) (List.getElem?_set_self hl2)
  obtain ⟨y', pg, vv, ep, hp⟩ := pm
  obtain ⟨x', px, dd, ex, hx⟩ := rm
  dsimp only at ep ex
  cases ep; cases ex
  exact ⟨⟨_, _, rfl, hp⟩, ⟨_, _, rfl, hx⟩⟩
theorem goes_cr (v : Int) {s : Cr} (h : HA w wr m b R S W g gb Sp hb n l l cc cc H cs (hks ws)) (ti : HTies H cs ws) (A : HAll n C l ws) (hcc : cc ≤ C) (hC : C ≤ 1000) (hc : cs[i]? = some c) (hk : ws[i]? = some k) (hmd : k.md = .cr cls s) (hi4 : i < 4) (n1 : 1 ≤ n) (n4 : n ≤ 4) :
    Calls Tryz.prog 24 #[.pointer (some ⟨hb, 0, none⟩), .pointer (some ⟨R, 0, none⟩), .pointer (some ⟨W, 0, none⟩), .int .i64 i, .int .i64 v] wr fun e w' => e = .returned (.bool true) ∧ HInv w w' m b R S W g gb Sp hb n (C + 1) := by
  have hks := hks_at hk
  have P := h.gang.rep i c _ hc hks
  have pm := P.md
  have rm := P.rmd
  dsimp only at pm rm
  rw [hmd] at pm rm
  obtain ⟨y, pg, vv, ep, -⟩ := pm
  obtain ⟨x, px, dd, ex, -⟩ := rm
  have hpp : c.p.head? = some y := by rw [ep]; rfl
  have hxx : c.x.head? = some x := by rw [ex]; rfl
  have mo := (A.md i k hk).1
  rw [hmd] at mo
  obtain ⟨I, h3, hcode⟩ := mo
  have T := ti i c k hi4 hc hk
  have cp : Hid (H.toArray[i]? = some (.pointer (some ⟨y, 0, none⟩))) := Lib.hid (by have := T.p 0 (by omega); rw [hmd, hpp] at this; simpa [hkind, optr] using this)
  have cx : Hid (H.toArray[16 + i]? = some (.pointer (some ⟨x, 0, none⟩))) := Lib.hid (by have := T.x 0 (by omega) (by rw [hmd]; rfl); rw [hxx] at this; simpa [optr] using this)
  have hh := h.hands
  have c1 := hh.cellv cp.out
  have c2 := hh.cellv cx.out
  have i0 : (0 : Int) ≤ (i : Int) := by omega
  have i4 : (i : Int) < 4 := by omega
  -- both accesses
  obtain ⟨s', hs'⟩ : ∃ s', crStep 1 (4 + n) n 4 cls l s = s' := ⟨_, rfl⟩
  obtain ⟨l', hl'⟩ : ∃ l', crMem 1 4 l s = l' := ⟨_, rfl⟩
  have SP : Hid (∀ w1, Keeps wr w1 → Calls Tryz.prog 29 #[.pointer (some ⟨y, 0, none⟩)] w1 fun e w' => e = .returned (.bool true) ∧ ∃ f, HA w w' m b R S W g gb Sp hb n l' l (cc + 1) cc H (cs.set i ⟨y :: f, c.x, c.h⟩) ((Go.Proofs.YtaecapjicphdkaaGreat.hks ws).set i ⟨.cr cls s', k.md, k.has⟩)) :=
    Lib.hid (fun w1 hk1 => by
      have := (h.later hk1).crP hc hks hmd hpp n1 n4 A.ok I (by omega) h3 (by omega)
      rw [hs', hl'] at this
      exact this)
  have hcl := (List.getElem?_eq_some_iff.1 hc).1
  have hwl := (List.getElem?_eq_some_iff.1 hk).1
  have hkl : i < (Go.Proofs.YtaecapjicphdkaaGreat.hks ws).length := by simp [Go.Proofs.YtaecapjicphdkaaGreat.hks]; exact hwl
  have SR : Hid (∀ w2 f, HA w w2 m b R S W g gb Sp hb n l' l (cc + 1) cc H (cs.set i ⟨y :: f, c.x, c.h⟩) ((Go.Proofs.YtaecapjicphdkaaGreat.hks ws).set i ⟨.cr cls s', k.md, k.has⟩) → Calls Tryz.prog 59 #[.pointer (some ⟨x, 0, none⟩)] w2 fun e w' => e = .returned (.bool true) ∧ ∃ f2, HA w w' m b R S W g gb Sp hb n l' l' (cc + 1) (cc + 1) H (cs.set i ⟨y :: f, x :: f2, c.h⟩) ((Go.Proofs.YtaecapjicphdkaaGreat.hks ws).set i ⟨.cr cls s', .cr cls s', k.has⟩)) :=
    Lib.hid (fun w2 f h2 => by
      have := h2.crR (List.getElem?_set_self hcl) (List.getElem?_set_self hkl) hmd hxx n1 n4 A.ok I (by omega) h3 (by omega)
      rw [hs', hl'] at this
      simp only [List.set_set] at this
      exact this)
  have I' : CrInv n (C + 1) s' := by rw [← hs']; exact I.step A.ok
  have L' : StOk 1 (4 + n) n (13 + 2 * n) l' := by rw [← hl']; exact A.ok.cr s
  have CD' : s'.code = 0 ∨ s'.code = 7 ∧ 3 ≤ s'.ph := by rw [← hs']; exact crStep_code hcode
  have HCd := Lib.hid CD'
  clear CD' hcode
  have HC := Lib.hid hc
  have HK := Lib.hid hk
  have HTi := Lib.hid ti
  have HAl := Lib.hid A
  have HI := Lib.hid I'
  have HL := Lib.hid L'
  have HPp : Hid (∀ f, (y :: f).head? = c.p.head?) := Lib.hid (fun f => by rw [hpp]; rfl)
  have HXx : Hid (∀ f, (x :: f).head? = c.x.head?) := Lib.hid (fun f => by rw [hxx]; rfl)
  have HKd : Hid (∀ t, hkind (.cr cls t) = hkind k.md) := Lib.hid (fun t => by rw [hmd]; rfl)
  have HKz : Hid (hkind k.md = 0) := Lib.hid (by rw [hmd]; rfl)
  clear I' L' hs' hl' hc hk ti A T I P ep ex hpp hxx hmd
  obtain ⟨bo, hD, hD2⟩ : ∃ bo, (crNx s'.ph).isNone = bo ∧ decide (3 ≤ s'.ph) = bo := by
    match s'.ph with
    | 0 => exact ⟨false, rfl, rfl⟩
    | 1 => exact ⟨false, rfl, rfl⟩
    | 2 => exact ⟨false, rfl, rfl⟩
    | k + 3 => exact ⟨true, rfl, by simp⟩
  have HD := Lib.hid hD
  have HD2 := Lib.hid hD2
  clear hD hD2
  go_enter Tryz.func24, Tryz.ntmps24
  go_upto_region 3 with fail
  go_region_held3 (fun u => u.cell? ⟨hb, i, none⟩ = some (.pointer (some ⟨y, 0, none⟩)) ∧ u.cell? ⟨hb, 16 + i, none⟩ = some (.pointer (some ⟨x, 0, none⟩))) (first | exact ⟨c1, c2⟩) (fail)
  go_wp2
  go_cut [67] (fun t wc => t = .bool false ∧ ∃ f f2, HA w wc m b R S W g gb Sp hb n l' l' (cc + 1) (cc + 1) H (cs.set i ⟨y :: f, x :: f2, c.h⟩) ((Go.Proofs.YtaecapjicphdkaaGreat.hks ws).set i ⟨.cr cls s', .cr cls s', k.has⟩))
  case first =>
    refine wp_region_held_drew (S := fun _ => True) (by kernel_rfl) trivial (fun hHeld => ?_)
    refine wpAnyH_take (i := 0) (oi := { dst := some 45, op := Go.Op.move (Go.Operand.tmp 11), type := 62, pos := "law.go:102", after := #[], guard := none }) (v := ?yv0) rfl (by kernel_rfl) (by kernel_rfl) (by kernel_rfl) (fun _ _ _ h => h) (Or.inl ⟨by rfl, ?yh0⟩) hHeld ?yr0
    case yh0 => intro y hSw; (try dsimp only at hSw); go_split_ands; go_simp; (try with_reducible rfl)
    (try simp only [Act.put, List.setIfInBounds_toArray, List.set_cons_zero, List.set_cons_succ])
    refine wpAnyH_take (i := 2) (oi := { dst := some 47, op := Go.Op.move (Go.Operand.tmp 12), type := 67, pos := "law.go:102", after := #[], guard := none }) (v := ?yv2) rfl (by kernel_rfl) (by kernel_rfl) (by kernel_rfl) (fun _ _ _ h => h) (Or.inl ⟨by rfl, ?yh2⟩) hHeld ?yr2
    case yh2 => intro y hSw; (try dsimp only at hSw); go_split_ands; go_simp; (try with_reducible rfl)
    (try simp only [Act.put, List.setIfInBounds_toArray, List.set_cons_zero, List.set_cons_succ])
    refine wpAnyH_ready (rs := [1]) (by kernel_rfl) (by simp) ?_
    refine AllReadyH.cons (o := { dst := some 46, op := Go.Op.call { callee := Go.Callee.value (Go.Operand.func 29), args := #[Go.Operand.tmp 45], argTypes := #[62] }, type := 4, pos := "law.go:102", after := #[{ on := 0, ground := Go.Ground.data }], guard := none }) rfl (fun K' hK => ?_) AllReadyH.nil
    go_simp
    (go_at_call 29; refine (SP.out _ (by ((repeat' (first | (with_reducible exact Keeps.refl _) | (with_reducible assumption) | (with_reducible refine Keeps.drewN ?_ _) | (with_reducible refine Keeps.drew ?_) | (with_reducible refine Keeps.alloc ?_ _) | (with_reducible refine Keeps.setCell ?_ ?_ _) | (with_reducible refine Keeps.trans ?_ (After.keeps _)) | (with_reducible refine Keeps.trans ?_ (by with_reducible assumption)) | go_size)); (first | done | fail)))).mono ?_; rintro e w1 ⟨rfl, f, h⟩)
    refine hK.out _ _ trivial (fun _ => ?_)
    clear hHeld
    have hHeld : True := trivial
    clear hK K'
    (try simp only [Act.put, List.setIfInBounds_toArray, List.set_cons_zero, List.set_cons_succ])
    refine wpAnyH_ready (rs := [3]) (by kernel_rfl) (by simp) ?_
    refine AllReadyH.cons (o := { dst := some 48, op := Go.Op.call { callee := Go.Callee.value (Go.Operand.func 59), args := #[Go.Operand.tmp 47], argTypes := #[67] }, type := 4, pos := "law.go:102", after := #[{ on := 2, ground := Go.Ground.data }, { on := 1, ground := Go.Ground.chain }], guard := none }) rfl (fun K' hK => ?_) AllReadyH.nil
    go_simp
    (go_at_call 59; refine (SR.out _ _ h).mono ?_; rintro e w2 ⟨rfl, f2, h⟩)
    obtain ⟨⟨pg2, v2, -, hP⟩, ⟨px2, d2, -, ⟨⟨a9, sl9, ge9, g9, mk9, cl9, of9, hX, e1, e2, e3, e4⟩, -⟩⟩⟩ := h.both HC.out HK.out
    rw [HD2.out] at hX
    refine hK.out _ _ trivial (fun _ => ?_)
    clear hHeld
    refine hAnyH_mono (S' := fun u => u.cell? ⟨x, 13, none⟩ = some (.bool bo) ∧ u.cell? ⟨x, 4, none⟩ = some (.int .i64 s'.point)) (fun _ _ => trivial) _ _ _ _ ?_
    have hHeld : w2.cell? ⟨x, 13, none⟩ = some (.bool bo) ∧ w2.cell? ⟨x, 4, none⟩ = some (.int .i64 s'.point) := ⟨hX.cell 13, hX.cell 4⟩
    clear hK K'
    (try simp only [Act.put, List.setIfInBounds_toArray, List.set_cons_zero, List.set_cons_succ])
    refine wpAnyH_take (i := 4) (oi := { dst := some 49, op := Go.Op.binOp Go.BinOp.neq 4 (Go.Operand.tmp 46) (Go.Operand.tmp 48) 4, type := 4, pos := "law.go:102", after := #[{ on := 1, ground := Go.Ground.data }, { on := 3, ground := Go.Ground.data }], guard := none }) (v := ?yv4) rfl (by kernel_rfl) (by kernel_rfl) (by kernel_rfl) (fun _ _ _ h => h) (Or.inl ⟨by rfl, ?yh4⟩) hHeld ?yr4
    case yh4 => intro y hSw; (try dsimp only at hSw); go_split_ands; go_simp; (try with_reducible rfl)
    (try simp only [Act.put, List.setIfInBounds_toArray, List.set_cons_zero, List.set_cons_succ])
    refine wpAnyH_take (i := 5) (oi := { dst := some 50, op := Go.Op.move (Go.Operand.tmp 49), type := 4, pos := "law.go:102", after := #[{ on := 4, ground := Go.Ground.data }, { on := 3, ground := Go.Ground.chain }], guard := none }) (v := ?yv5) rfl (by kernel_rfl) (by kernel_rfl) (by kernel_rfl) (fun _ _ _ h => h) (Or.inl ⟨by rfl, ?yh5⟩) hHeld ?yr5
    case yh5 => intro y hSw; (try dsimp only at hSw); go_split_ands; go_simp; (try with_reducible rfl)
    (try simp only [Act.put, List.setIfInBounds_toArray, List.set_cons_zero, List.set_cons_succ])
    refine wpAnyH_take (i := 6) (oi := { dst := some 51, op := Go.Op.move (Go.Operand.tmp 11), type := 62, pos := "law.go:102", after := #[{ on := 5, ground := Go.Ground.guard }], guard := some (5, false) }) (v := ?yv6) rfl (by kernel_rfl) (by kernel_rfl) (by kernel_rfl) (fun _ _ _ h => h) (Or.inl ⟨by rfl, ?yh6⟩) hHeld ?yr6
    case yh6 => intro y hSw; (try dsimp only at hSw); go_split_ands; go_simp; (try with_reducible rfl)
    (try simp only [Act.put, List.setIfInBounds_toArray, List.set_cons_zero, List.set_cons_succ])
    refine wpAnyH_take (i := 8) (oi := { dst := some 53, op := Go.Op.move (Go.Operand.tmp 12), type := 67, pos := "law.go:102", after := #[{ on := 5, ground := Go.Ground.guard }], guard := some (5, false) }) (v := ?yv8) rfl (by kernel_rfl) (by kernel_rfl) (by kernel_rfl) (fun _ _ _ h => h) (Or.inl ⟨by rfl, ?yh8⟩) hHeld ?yr8
    case yh8 => intro y hSw; (try dsimp only at hSw); go_split_ands; go_simp; (try with_reducible rfl)
    (try simp only [Act.put, List.setIfInBounds_toArray, List.set_cons_zero, List.set_cons_succ])
    refine wpAnyH_take (i := 9) (oi := { dst := some 54, op := Go.Op.nilCheck (Go.Operand.tmp 53), type := 0, pos := "law.go:102", after := #[{ on := 8, ground := Go.Ground.data }, { on := 5, ground := Go.Ground.guard }], guard := some (5, false) }) (v := ?yv9) rfl (by kernel_rfl) (by kernel_rfl) (by kernel_rfl) (fun _ _ _ h => h) (Or.inl ⟨by rfl, ?yh9⟩) hHeld ?yr9
    case yh9 => intro y hSw; (try dsimp only at hSw); go_split_ands; go_simp; (try with_reducible rfl)
    (try simp only [Act.put, List.setIfInBounds_toArray, List.set_cons_zero, List.set_cons_succ])
    refine wpAnyH_take (i := 10) (oi := { dst := some 55, op := Go.Op.fieldAddr 127 (Go.Operand.tmp 54) 10, type := 0, pos := "law.go:102", after := #[{ on := 9, ground := Go.Ground.data }, { on := 5, ground := Go.Ground.guard }], guard := some (5, false) }) (v := ?yv10) rfl (by kernel_rfl) (by kernel_rfl) (by kernel_rfl) (fun _ _ _ h => h) (Or.inl ⟨by rfl, ?yh10⟩) hHeld ?yr10
    case yh10 => intro y hSw; (try dsimp only at hSw); go_split_ands; go_simp; (try with_reducible rfl)
    (try simp only [Act.put, List.setIfInBounds_toArray, List.set_cons_zero, List.set_cons_succ])
    refine wpAnyH_take (i := 11) (oi := { dst := some 56, op := Go.Op.load 4 (Go.Operand.tmp 55), type := 4, pos := "law.go:102", after := #[{ on := 10, ground := Go.Ground.data }, { on := 5, ground := Go.Ground.guard }], guard := some (5, false) }) (v := ?yv11) rfl (by kernel_rfl) (by kernel_rfl) (by kernel_rfl) (fun _ _ _ h => h) (Or.inl ⟨by rfl, ?yh11⟩) hHeld ?yr11
    case yh11 => intro y hSw; (try dsimp only at hSw); go_split_ands; go_simp; (try with_reducible rfl)
    (try simp only [Act.put, List.setIfInBounds_toArray, List.set_cons_zero, List.set_cons_succ])
    refine wpAnyH_ready (rs := [7]) (by kernel_rfl) (by simp) ?_
    refine AllReadyH.cons (o := { dst := some 52, op := Go.Op.call { callee := Go.Callee.value (Go.Operand.func 31), args := #[Go.Operand.tmp 51], argTypes := #[62] }, type := 4, pos := "law.go:102", after := #[{ on := 6, ground := Go.Ground.data }, { on := 5, ground := Go.Ground.chain }, { on := 5, ground := Go.Ground.guard }], guard := some (5, false) }) rfl (fun K' hK => ?_) AllReadyH.nil
    go_simp
    (go_at_call 31; refine (crDone_c hP.has).mono ?_; rintro e w3 ⟨rfl, rfl⟩; rw [HD.out])
    refine hK.out _ _ hHeld (fun _ => ?_)
    clear hK K'
    (try simp only [Act.put, List.setIfInBounds_toArray, List.set_cons_zero, List.set_cons_succ])
    refine wpAnyH_take (i := 12) (oi := { dst := some 57, op := Go.Op.binOp Go.BinOp.neq 4 (Go.Operand.tmp 52) (Go.Operand.tmp 56) 4, type := 4, pos := "law.go:102", after := #[{ on := 7, ground := Go.Ground.data }, { on := 11, ground := Go.Ground.data }, { on := 5, ground := Go.Ground.guard }], guard := some (5, false) }) (v := ?yv12) rfl (by kernel_rfl) (by kernel_rfl) (by kernel_rfl) (fun _ _ _ h => h) (Or.inl ⟨by rfl, ?yh12⟩) hHeld ?yr12
    case yh12 => intro y hSw; (try dsimp only at hSw); go_split_ands; go_simp; (try with_reducible rfl)
    (try simp only [Act.put, List.setIfInBounds_toArray, List.set_cons_zero, List.set_cons_succ])
    refine wpAnyH_take (i := 13) (oi := { dst := some 58, op := Go.Op.pick (Go.Operand.tmp 50) (Go.Operand.const (Go.Value.bool true)) (Go.Operand.tmp 57), type := 4, pos := "law.go:102", after := #[{ on := 5, ground := Go.Ground.data }, { on := 12, ground := Go.Ground.data }], guard := none }) (v := ?yv13) rfl (by kernel_rfl) (by kernel_rfl) (by kernel_rfl) (fun _ _ _ h => h) (Or.inl ⟨by rfl, ?yh13⟩) hHeld ?yr13
    case yh13 => intro y hSw; (try dsimp only at hSw); go_split_ands; go_simp; (try with_reducible rfl)
    (try simp only [Act.put, List.setIfInBounds_toArray, List.set_cons_zero, List.set_cons_succ])
    refine wpAnyH_take (i := 14) (oi := { dst := some 59, op := Go.Op.move (Go.Operand.tmp 58), type := 4, pos := "law.go:102", after := #[{ on := 13, ground := Go.Ground.data }, { on := 7, ground := Go.Ground.chain }], guard := none }) (v := ?yv14) rfl (by kernel_rfl) (by kernel_rfl) (by kernel_rfl) (fun _ _ _ h => h) (Or.inl ⟨by rfl, ?yh14⟩) hHeld ?yr14
    case yh14 => intro y hSw; (try dsimp only at hSw); go_split_ands; go_simp; (try with_reducible rfl)
    (try simp only [Act.put, List.setIfInBounds_toArray, List.set_cons_zero, List.set_cons_succ])
    refine wpAnyH_take (i := 15) (oi := { dst := some 60, op := Go.Op.move (Go.Operand.tmp 11), type := 62, pos := "law.go:102", after := #[{ on := 14, ground := Go.Ground.guard }], guard := some (14, false) }) (v := ?yv15) rfl (by kernel_rfl) (by kernel_rfl) (by kernel_rfl) (fun _ _ _ h => h) (Or.inl ⟨by rfl, ?yh15⟩) hHeld ?yr15
    case yh15 => intro y hSw; (try dsimp only at hSw); go_split_ands; go_simp; (try with_reducible rfl)
    (try simp only [Act.put, List.setIfInBounds_toArray, List.set_cons_zero, List.set_cons_succ])
    refine wpAnyH_take (i := 17) (oi := { dst := some 62, op := Go.Op.move (Go.Operand.tmp 12), type := 67, pos := "law.go:102", after := #[{ on := 14, ground := Go.Ground.guard }], guard := some (14, false) }) (v := ?yv17) rfl (by kernel_rfl) (by kernel_rfl) (by kernel_rfl) (fun _ _ _ h => h) (Or.inl ⟨by rfl, ?yh17⟩) hHeld ?yr17
    case yh17 => intro y hSw; (try dsimp only at hSw); go_split_ands; go_simp; (try with_reducible rfl)
    (try simp only [Act.put, List.setIfInBounds_toArray, List.set_cons_zero, List.set_cons_succ])
    refine wpAnyH_take (i := 18) (oi := { dst := some 63, op := Go.Op.nilCheck (Go.Operand.tmp 62), type := 0, pos := "law.go:102", after := #[{ on := 17, ground := Go.Ground.data }, { on := 14, ground := Go.Ground.guard }], guard := some (14, false) }) (v := ?yv18) rfl (by kernel_rfl) (by kernel_rfl) (by kernel_rfl) (fun _ _ _ h => h) (Or.inl ⟨by rfl, ?yh18⟩) hHeld ?yr18
    case yh18 => intro y hSw; (try dsimp only at hSw); go_split_ands; go_simp; (try with_reducible rfl)
    (try simp only [Act.put, List.setIfInBounds_toArray, List.set_cons_zero, List.set_cons_succ])
    refine wpAnyH_take (i := 19) (oi := { dst := some 64, op := Go.Op.fieldAddr 127 (Go.Operand.tmp 63) 4, type := 0, pos := "law.go:102", after := #[{ on := 18, ground := Go.Ground.data }, { on := 14, ground := Go.Ground.guard }], guard := some (14, false) }) (v := ?yv19) rfl (by kernel_rfl) (by kernel_rfl) (by kernel_rfl) (fun _ _ _ h => h) (Or.inl ⟨by rfl, ?yh19⟩) hHeld ?yr19
    case yh19 => intro y hSw; (try dsimp only at hSw); go_split_ands; go_simp; (try with_reducible rfl)
    (try simp only [Act.put, List.setIfInBounds_toArray, List.set_cons_zero, List.set_cons_succ])
    refine wpAnyH_take (i := 20) (oi := { dst := some 65, op := Go.Op.load 3 (Go.Operand.tmp 64), type := 3, pos := "law.go:102", after := #[{ on := 19, ground := Go.Ground.data }, { on := 14, ground := Go.Ground.guard }], guard := some (14, false) }) (v := ?yv20) rfl (by kernel_rfl) (by kernel_rfl) (by kernel_rfl) (fun _ _ _ h => h) (Or.inl ⟨by rfl, ?yh20⟩) hHeld ?yr20
    case yh20 => intro y hSw; (try dsimp only at hSw); go_split_ands; go_simp; (try with_reducible rfl)
    (try simp only [Act.put, List.setIfInBounds_toArray, List.set_cons_zero, List.set_cons_succ])
    refine wpAnyH_ready (rs := [16]) (by kernel_rfl) (by simp) ?_
    refine AllReadyH.cons (o := { dst := some 61, op := Go.Op.call { callee := Go.Callee.value (Go.Operand.func 33), args := #[Go.Operand.tmp 60], argTypes := #[62] }, type := 3, pos := "law.go:102", after := #[{ on := 15, ground := Go.Ground.data }, { on := 14, ground := Go.Ground.chain }, { on := 14, ground := Go.Ground.guard }], guard := some (14, false) }) rfl (fun K' hK => ?_) AllReadyH.nil
    go_simp
    (go_at_call 33; refine (crPoint_c hP.has).mono ?_; rintro e w3 ⟨rfl, rfl⟩)
    refine hK.out _ _ hHeld (fun _ => ?_)
    clear hK K'
    (try simp only [Act.put, List.setIfInBounds_toArray, List.set_cons_zero, List.set_cons_succ])
    refine wpAnyH_take (i := 21) (oi := { dst := some 66, op := Go.Op.binOp Go.BinOp.neq 3 (Go.Operand.tmp 61) (Go.Operand.tmp 65) 3, type := 4, pos := "law.go:102", after := #[{ on := 16, ground := Go.Ground.data }, { on := 20, ground := Go.Ground.data }, { on := 14, ground := Go.Ground.guard }], guard := some (14, false) }) (v := ?yv21) rfl (by kernel_rfl) (by kernel_rfl) (by kernel_rfl) (fun _ _ _ h => h) (Or.inl ⟨by rfl, ?yh21⟩) hHeld ?yr21
    case yh21 => intro y hSw; (try dsimp only at hSw); go_split_ands; go_simp; (try with_reducible rfl)
    (try simp only [Act.put, List.setIfInBounds_toArray, List.set_cons_zero, List.set_cons_succ])
    refine wpAnyH_take (i := 22) (oi := { dst := some 67, op := Go.Op.pick (Go.Operand.tmp 59) (Go.Operand.const (Go.Value.bool true)) (Go.Operand.tmp 66), type := 4, pos := "law.go:102", after := #[{ on := 14, ground := Go.Ground.data }, { on := 21, ground := Go.Ground.data }], guard := none }) (v := ?yv22) rfl (by kernel_rfl) (by kernel_rfl) (by kernel_rfl) (fun _ _ _ h => h) (Or.inl ⟨by rfl, ?yh22⟩) hHeld ?yr22
    case yh22 => intro y hSw; (try dsimp only at hSw); go_split_ands; go_simp; (try with_reducible rfl)
    (try simp only [Act.put, List.setIfInBounds_toArray, List.set_cons_zero, List.set_cons_succ])
    refine wpAnyH_done (by kernel_rfl) ?_ _
    go_wp2
    go_meet
    case rel => exact ⟨rfl, f, f2, h⟩
  case rest =>
    obtain ⟨rfl, f, f2, h⟩ := hcut
    obtain ⟨⟨pg2, v2, -, hP⟩, ⟨px2, d2, -, ⟨⟨a9, sl9, ge9, g9, mk9, cl9, of9, hX, e1, e2, e3, e4⟩, -⟩⟩⟩ := h.both HC.out HK.out
    rw [HD2.out] at hX
    have FX_ := (hX).facts; simp only [blockFacts, listFacts, cellsAt, Nat.reduceAdd, and_true, true_and, and_assoc] at FX_
    have hhn := h.hands.frozen i
    have hhc := h.hands.cellv cp.out
    cases bo with
    | false =>
      go_wp2
      go_ret
      exact ⟨rfl, HInv.go h HTi.out HAl.out HC.out HK.out hi4 (HPp.out _) (HXx.out _) (HKd.out _) HL.out ⟨HI.out, by have := of_decide_eq_false HD2.out; omega, by have := of_decide_eq_false HD2.out; have := HCd.out; omega⟩ (by omega)⟩
    | true =>
      have hph := of_decide_eq_true HD2.out
      by_cases hcd : s'.code = 0
      · obtain ⟨rfl, rfl⟩ := e4 hph hcd
        have HCD := Lib.hid hcd
        have HReg := Lib.hid (crRegion_c (s2 := s'.slot) (g2 := s'.g) (fun _ => ⟨rfl, rfl⟩) (fun hn => absurd ⟨by cases hx : crNx s'.ph with | none => rfl | some z => (have := HD.out; rw [hx] at this; cases this), hcd⟩ hn) hP.has)
        have hPh := hP.has
        rw [hcd] at hX
        rw [hcd] at hPh
        rw [hcd] at FX_
        clear hcd e1 e2 e3 e4 hph
        go_upto_region 8 with (go_at_call 30; refine HReg.out.mono ?_; rintro e w9 ⟨rfl, j, rfl⟩)
        have hX := hX.drewN j
        have hPh := hPh.drewN j
        have h := h.later ((Keeps.refl wc).drewN j)
        generalize wc.drewN j = W2 at *
        go_region_held3 (fun u => ((u.cell? ⟨x, 12, none⟩ = some (.int .i64 0) ∧ u.cell? ⟨x, 5, none⟩ = some (.int .i64 s'.slot)) ∧ u.cell? ⟨x, 6, none⟩ = some (.int .i64 s'.g))) (((repeat' (with_reducible apply And.intro)) <;> (apply Has.cellv; (focus ((repeat (first | (with_reducible assumption) | (with_reducible exact Has.new _ _ _) | (with_reducible exact Has.new1 _ _ _ _) | (with_reducible exact Has.new2 _ _ _ _ _) | (with_reducible refine Has.newAt ?_; (simp; done)) | (with_reducible apply Has.set) | (with_reducible apply Has.far; (case hn => first | assumption | (simp; done) | (intro e_; simp at e_; omega))) | (with_reducible apply Has.alloc) | (with_reducible apply Has.drewN) | (with_reducible apply Has.drew) | (with_reducible refine Has.keeps ?_ (by with_reducible assumption)))))); (first | (with_reducible assumption) | rfl | (simp; done) | fail))))
          ((go_at_call 32; refine (crCode_c hPh.drew).mono ?_; rintro e w' ⟨rfl, rfl⟩))
        have hhn := h.hands.frozen i
        have hhc := h.hands.cellv cp.out
        go_wp2
        go_ret
        exact ⟨rfl, by simpa using (HInv.stop (a := 0) h HTi.out HAl.out HC.out HK.out hi4 (by omega) HKz.out HL.out (by omega)).later (Keeps.refl _).drew⟩
      · have h7 : s'.code = 7 := by have := HCd.out; omega
        have HReg := Lib.hid (crRegion_c (s2 := 0) (g2 := 0) (fun hn => absurd hn.2 hcd) (fun _ => ⟨rfl, rfl⟩) hP.has)
        have hPh := hP.has
        rw [h7] at hX
        rw [h7] at hPh
        rw [h7] at FX_
        clear hcd e1 e2 e3 e4 hph h7
        go_upto_region 8 with (go_at_call 30; refine HReg.out.mono ?_; rintro e w9 ⟨rfl, j, rfl⟩)
        have hX := hX.drewN j
        have hPh := hPh.drewN j
        have h := h.later ((Keeps.refl wc).drewN j)
        generalize wc.drewN j = W2 at *
        clear FX_
        have FX_ := (hX).facts; simp only [blockFacts, listFacts, cellsAt, Nat.reduceAdd, and_true, true_and, and_assoc] at FX_
        have HCq := Lib.hid (fun k => Calls.quiet_of_same ((crCode_c (hPh.drewN k)).mono fun _ _ ⟨p, q⟩ => ⟨p, q.symm⟩))
        go_quiet ((go_at_call 32; with_reducible exact HCq.out _))
        have hhn := h.hands.frozen i
        have hhc := h.hands.cellv cp.out
        go_wp2
        go_ret
        exact ⟨rfl, by simpa using HInv.stop (a := 0) (h.later ((Keeps.refl _).drewN _)) HTi.out HAl.out HC.out HK.out hi4 (by omega) HKz.out HL.out (by omega)⟩
end
end Go.Proofs.YtaecapjicphdkaaGreat
