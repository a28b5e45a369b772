/- The chapter's example of epochs, walked. -/
import Derived.Test.YtkpagkopfdblgaaEpochN
import Derived.Test.YtkpagkopfdblgaaEpochI
namespace Go.Proofs.Ytkpagkopfdblgaa
set_option linter.unusedVariables false
set_option linter.unusedSimpArgs false
open Go Go.RowKit
set_option maxRecDepth 100000
set_option maxHeartbeats 1000000

section
variable {w : World} {E m b n : Nat} {cc : Int} {x : Acc} {g : Nat} {p : List Int × Ad} {k : Nat} {B : Int}
theorem adRunStep_c (o : Bool) (ho : decide ((adRun n k p).2.ph < 3) = o) (hg : AdRep w g E (adRun n k p).2) (hE : Has w E (epochOf m 0 1 n) 144) (M : Mem w m b (n + 1) (adRun n k p).1 (adRun n k p).2.c x) (H : AdInv n B p.1 p.2) (hB : B + k ≤ 400000) :
    Calls Try.prog 49 #[.pointer (some ⟨g, 0, none⟩)] w fun e w' => e = .returned (.bool o) ∧ Upd [g, m, b] w w' ∧
      AdRep w' g E (adRun n (k + 1) p).2 ∧ Has w' E (epochOf m 0 1 n) 144 ∧ ∃ x', Mem w' m b (n + 1) (adRun n (k + 1) p).1 (adRun n (k + 1) p).2.c x' := by
  have hI := (adRun_inv H k (by omega))
  have ngE : E ≠ g := (Has.ne hg hE (by decide)).symm
  have ngm : E ≠ m := hE.ne M.hg (by decide)
  have ngb : E ≠ b := hE.ne M.hb (by decide)
  refine (adStep_c hg hE M (hI.ok (by omega)) (by have := hI.c1; omega)).mono ?_
  rintro e w' ⟨rfl, hu, hA, x', M'⟩
  refine ⟨by rw [ho], hu, hA, hE.upd hu (by simp; exact ⟨ngE, ngm, ngb⟩), x', ?_⟩
  have e : (adRun n (k + 1) p).2.c = (adRun n k p).2.c + adCount (adRun n k p).2 := adStep_count _ _ _
  rw [e]
  exact M'
end
/-- An Advance that is new. -/
abbrev ad0 : Ad := ⟨0, 0, 0, 0, false⟩
theorem epochFirst_c (w : World) : Calls Try.prog 46 #[] w fun e w' => e = .returned (.bool true) ∧ Keeps w w' := by
  obtain ⟨l0, hl0⟩ : ∃ l0 : List Int, List.replicate (1 + 1) 0 = l0 := ⟨_, rfl⟩
  have HI : Hid (AdInv 1 0 l0 ad0) := Lib.hid (by subst hl0; exact ⟨rfl, by omega, by omega, by decide, by decide, by decide, by decide, by decide, by decide, by decide, by decide⟩)
  have HD0 : Hid (decide ((adRun 1 0 (l0, ad0)).2.ph < 3) = true) := Lib.hid (by subst hl0; decide)
  have HD1 : Hid (decide ((adRun 1 1 (l0, ad0)).2.ph < 3) = true) := Lib.hid (by subst hl0; decide)
  have HD2 : Hid (decide ((adRun 1 2 (l0, ad0)).2.ph < 3) = true) := Lib.hid (by subst hl0; decide)
  have HZ : Hid (List.replicate (1 + 1) 0 = l0) := Lib.hid hl0
  have HF : Hid ((adRun 1 3 (l0, ad0)).1 = [1, 0] ∧ (adRun 1 3 (l0, ad0)).2 = ⟨3, 3, 0, 1, true⟩) := Lib.hid (by subst hl0; exact ⟨by decide, by rfl⟩)
  clear hl0
  have t0 : True := trivial
  have t1 : True := trivial
  have t2 : True := trivial
  go_enter Try.func46, Try.ntmps46
  go_wp2_with (first
    | (go_at_call 47; refine (epochMade_c 1 _ (by omega) (by omega)).mono ?_; rintro e w' ⟨m, b, E, rfl, hk, hm, hb, hEs, M, HE⟩; rw [HZ.out] at M)
    | (go_at_call 48; refine (adNew_c HE).mono ?_; rintro e w' ⟨g, rfl, hk2, hgs, HA⟩; have M := M.keeps hk2; have HE := HE.keeps hk2; have K0 := hk.trans hk2; have hg2 := Nat.le_trans hk.size hgs; clear hk2)
    | (go_at_call 49; have t_ := t0; clear t_ t0; refine (adRunStep_c (k := 0) true HD0.out HA HE M HI.out (by omega)).mono ?_; rintro e w' ⟨rfl, hu, HA, HE, x1, M⟩; have K0 := K0.upd hu (by simp; exact ⟨hg2, hm, hb⟩))
    | (go_at_call 49; have t_ := t1; clear t_ t1; refine (adRunStep_c (k := 1) true HD1.out HA HE M HI.out (by omega)).mono ?_; rintro e w' ⟨rfl, hu, HA, HE, x1, M⟩; have K0 := K0.upd hu (by simp; exact ⟨hg2, hm, hb⟩))
    | (go_at_call 49; have t_ := t2; clear t_ t2; refine (adRunStep_c (k := 2) true HD2.out HA HE M HI.out (by omega)).mono ?_; rintro e w' ⟨rfl, hu, HA, HE, x1, M⟩; have K0 := K0.upd hu (by simp; exact ⟨hg2, hm, hb⟩); rw [HF.out.1, HF.out.2] at M; rw [HF.out.2] at HA)
    | (go_at_call 50; refine (adDone_c HA).mono ?_; rintro e w' ⟨rfl, rfl⟩)
    | (go_at_call 51; refine (adWon_c HA).mono ?_; rintro e w' ⟨rfl, rfl⟩)
    | (go_at_call 52; refine (now_c (a := 0) HE M rfl (by omega)).mono ?_; rintro e w' ⟨rfl, hk3⟩; have M := M.keeps hk3; have K0 := K0.trans hk3; rw [show cutI 1 = 1 from rfl])
    | (go_at_call 45; refine (mcount M).mono ?_; rintro e w' ⟨rfl, rfl⟩))
  go_ret
  exact ⟨rfl, K0⟩
end Go.Proofs.Ytkpagkopfdblgaa
