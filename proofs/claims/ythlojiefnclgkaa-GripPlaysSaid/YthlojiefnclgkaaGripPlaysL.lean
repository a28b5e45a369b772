/- The law GripPlays, walked. -/
import Derived.Test.YthlojiefnclgkaaGripL
import Derived.Test.YthlojiefnclgkaaRGripW
import Derived.Test.YthlojiefnclgkaaReads3
import Derived.Deep.RegionHeld3
import Derived.Deep.DeepCutAuto
namespace Go.Proofs.Ythlojiefnclgkaa
set_option linter.unusedVariables false
set_option linter.unusedSimpArgs false
open Go Go.RowKit
set_option maxRecDepth 100000

theorem RGripAt.k1 {w0 w w' : World} {g : Nat} {d : Int} {L : List (Int × Int)} {v : Value} (K : Keeps w0 w) (G : RGripAt w0.heap.size w g d L v) (hu : Upd [g] w w') : Keeps w0 w' :=
  K.upd hu (by simp; exact G.le)
/-- The two grips lie apart. -/
theorem grips_apart {B w g x d e L M v u} (G : GripAt B w g d L v) (R : RGripAt B w x e M u) : (g ≠ x ∧ ∀ y ∈ ownOf v, y ≠ x) ∧ ∀ y ∈ ownOf u, y ≠ g ∧ ∀ z ∈ ownOf v, y ≠ z := by
  refine ⟨⟨G.hg.ne R.hg (by decide), G.row.ne R.hg (by decide)⟩, fun y hy => ⟨R.row.ne G.hg (by decide) y hy, fun z hz => ?_⟩⟩
  obtain ⟨_, ⟨rfl, _⟩ | ⟨b, cap, cur, rfl, hB, hb, _⟩⟩ := G.row
  · simp [ownOf, Value.ownBlock] at hz
  · simp [ownOf, Value.ownBlock] at hz
    subst hz
    exact R.row.ne (g := z) (cs := cur) hb (by decide) y hy
section
variable {B g x : Nat} {w w' : World} {d e : Int} {L M : List (Int × Int)} {v u : Value}
theorem RGripAt.past1 (R : RGripAt B w x e M u) (G : GripAt B w g d L v) (hu : Upd [g] w w') : RGripAt B w' x e M u :=
  R.upd hu (by simp; exact fun e => (grips_apart G R).1.1 e.symm) (fun y hy => by simp; exact ((grips_apart G R).2 y hy).1)
theorem RGripAt.past2 (R : RGripAt B w x e M u) (G : GripAt B w g d L v) (hu : Upd (g :: ownOf v) w w') : RGripAt B w' x e M u :=
  R.upd hu (fun hm => by
    rcases List.mem_cons.1 hm with h | h
    · exact (grips_apart G R).1.1 h.symm
    · exact (grips_apart G R).1.2 _ h rfl) (fun y hy hm => by
    rcases List.mem_cons.1 hm with h | h
    · exact ((grips_apart G R).2 y hy).1 h
    · exact ((grips_apart G R).2 y hy).2 _ h rfl)
theorem GripAt.past (G : GripAt B w g d L v) (R : RGripAt B w x e M u) (hu : Upd [x] w w') : GripAt B w' g d L v :=
  G.upd hu (by simp; exact (grips_apart G R).1.1) (fun y hy => by simp; exact (grips_apart G R).1.2 y hy)
theorem GripAt.fresh {D : Nat} (G : GripAt B w g d L v) (hD : w.heap.size ≤ D) : D ∉ g :: ownOf v := fun h => by
  have h1 := G.hg.lt
  rcases List.mem_cons.1 h with h | h
  · omega
  · have := (G.row.own D h).2; omega
theorem RGripAt.fresh {D : Nat} (R : RGripAt B w x e M u) (hD : w.heap.size ≤ D) : D ≠ x := fun h => by
  have h1 := R.hg.lt
  omega
theorem rgrip_cells (R : RGripAt B w x d L v) (q : After w) : q.world.cell? ⟨x, 0, none⟩ = some (.int .i64 d) ∧ q.world.cell? ⟨x, 1, none⟩ = some v := ⟨(R.hg.keeps q.keeps).cell 0, (R.hg.keeps q.keeps).cell 1⟩
theorem d3cells {D : Nat} {a b c : Int} {t : TypeId} (h : Has w D #[.int .i64 a, .int .i64 b, .int .i64 c] t) (q : After w) : q.world.cell? ⟨D, 0, none⟩ = some (.int .i64 a) ∧ q.world.cell? ⟨D, 1, none⟩ = some (.int .i64 b) ∧ q.world.cell? ⟨D, 2, none⟩ = some (.int .i64 c) := ⟨(h.keeps q.keeps).cell 0, (h.keeps q.keeps).cell 1, (h.keeps q.keeps).cell 2⟩
theorem wp_named {P : Program} {c : Code} {Q : Exit → Act → World → Prop} {a : Act} {w : World} (h : ∀ W, W = w → c.wp P Q a W) : c.wp P Q a w := h w rfl
end

set_option maxHeartbeats 8000000 in
theorem gripPlays_c (v : Value) (zs : List (List Int)) (w : World) (hr : ReadsF [.i64, .i64, .i64] w v zs) (hz3 : ∀ z ∈ zs, z.length = 3) : Calls Try.prog 4 #[v] w fun e w' => e = .returned (.bool true) ∧ Keeps w w' := by
  obtain ⟨a, cap, rfl, hr⟩ := hr
  have HR := Lib.hid hr
  have HZ := Lib.hid hz3
  clear hr hz3
  by_cases hl : 200 < zs.length
  · go_enter Try.func4, Try.ntmps4
    go_wp2_with (go_at_call 36; refine (gfirst_c _).mono ?_; rintro e w' ⟨rfl, K⟩)
    go_ret
    exact ⟨rfl, by (repeat' (first | (with_reducible exact Keeps.refl _) | (with_reducible assumption) | (with_reducible refine Keeps.drewN ?_ _) | (with_reducible refine Keeps.drew ?_) | (with_reducible refine Keeps.alloc ?_ _) | (with_reducible refine Keeps.setCell ?_ ?_ _) | (with_reducible refine Keeps.trans ?_ (After.keeps _)) | (with_reducible refine Keeps.trans ?_ (by with_reducible assumption)) | go_size))⟩
  · go_enter Try.func4, Try.ntmps4
    go_wp2_with (first
      | (go_at_call 36; refine (gfirst_c _).mono ?_; rintro e w' ⟨rfl, K⟩)
      | (go_at_call 37; refine (gnew_c _ w.heap.size K.size).mono ?_; rintro e w' ⟨g, rfl, hk, hg, G⟩; have K := K.trans hk))
    have R : RGripAt w.heap.size (w'.alloc (.cells #[.int .i64 0, .slice none 0 0] 40)) w'.heap.size 0 [] (.slice none 0 0) := ⟨Has.new _ _ _, World.ownsRow_nil _ _ _ _, K.size, by have := K.size; simp; omega, by simp⟩
    have G := G.keeps ((Keeps.refl w').alloc (.cells #[.int .i64 0, .slice none 0 0] 40))
    have K := K.alloc (.cells #[.int .i64 0, .slice none 0 0] 40)
    generalize w'.heap.size = x at *
    go_loopw [6] (fun i wr => ∃ (k : Nat) (d : Int) (L : List (Int × Int)) (v u : Value), k ≤ zs.length ∧ i = .int .i64 k ∧ GripAt w.heap.size wr g d L v ∧ RGripAt w.heap.size wr x d L u ∧ Keeps w wr ∧ 0 ≤ d ∧ d ≤ 15 ∧ L.length ≤ 8) (fun i _ => zs.length - (intOf i).toNat)
    case atStart => exact ⟨0, 0, [], _, _, by omega, rfl, G, R, K, by omega, by omega, by simp⟩
    case round =>
      clear G R K hk
      obtain ⟨k, d, L, v, u, hk, rfl, G, R, K, d0, d1, hL⟩ := hrel
      by_cases hlt : k < zs.length
      · obtain ⟨bb, off, rfl, hb, hc⟩ := HR.out (by rintro rfl; simp at hlt)
        have hzl : zs[k].length = 3 := HZ.out _ (List.getElem_mem hlt)
        obtain ⟨z0, z1, z2, hz⟩ : ∃ a b c, zs[k] = [a, b, c] := by
          match zs[k], hzl with
          | [a, b, c], _ => exact ⟨a, b, c, rfl⟩
        have hc0 := hc k _ (List.getElem?_eq_getElem hlt) 0 (.int .i64 z0) (by rw [hz]; rfl)
        have hc1 := hc k _ (List.getElem?_eq_getElem hlt) 1 (.int .i64 z1) (by rw [hz]; rfl)
        have hc2 := hc k _ (List.getElem?_eq_getElem hlt) 2 (.int .i64 z2) (by rw [hz]; rfl)
        rw [← K.cell hb] at hc0 hc1 hc2
        have hc0 : wr.cell? ⟨bb, off + k * 3, none⟩ = some (.int .i64 z0) := hc0
        have hc1 : wr.cell? ⟨bb, off + k * 3 + 1, none⟩ = some (.int .i64 z1) := hc1
        have hc2 : wr.cell? ⟨bb, off + k * 3 + 2, none⟩ = some (.int .i64 z2) := hc2
        have hbw := Nat.lt_of_lt_of_le hb K.size
        clear hc hz hzl
        have hq : z0 % 5 = 0 ∨ z0 % 5 = 1 ∨ z0 % 5 = 2 ∨ z0 % 5 = 3 ∨ z0 % 5 = 4 := by omega
        rcases hq with hq | hq | hq | hq | hq
        all_goals have HQ := Lib.hid hq
        all_goals clear hq
        · by_cases hd : d < 15
          · skip
            go_upto_region 14 with fail
            have HD := Has.new wr #[.int .i64 z0, .int .i64 z1, .int .i64 z2] 41
            have hfr := GripAt.fresh G (Nat.le_refl _)
            have hfx := RGripAt.fresh R (Nat.le_refl _)
            have G := G.keeps ((Keeps.refl wr).alloc (.cells #[.int .i64 z0, .int .i64 z1, .int .i64 z2] 41))
            have R := R.keeps ((Keeps.refl wr).alloc (.cells #[.int .i64 z0, .int .i64 z1, .int .i64 z2] 41))
            have K := K.alloc (.cells #[.int .i64 z0, .int .i64 z1, .int .i64 z2] 41)
            obtain ⟨dd, hdd⟩ : ∃ dd, dd = wr.heap.size := ⟨_, rfl⟩
            rw [← hdd] at hfr hfx HD
            rw [← hdd]
            clear hdd
            refine wp_named (fun W0 hW0 => ?_)
            rw [← hW0] at HD G R K
            clear hW0
            have F_ := (HD).facts; simp only [blockFacts, listFacts, cellsAt, Nat.reduceAdd, and_true, true_and, and_assoc] at F_
            go_upto_region 28 with (first
              | (go_at_call 38; refine (number_c _ _ _ (by omega) (by omega)).mono ?_; rintro e w' ⟨rfl, rfl⟩; rw [HQ.out])
              | (go_at_call 39; refine (gpin_c _ _ _ _ _ _ G d0 hd).mono ?_; rintro e w' ⟨rfl, hu, G1⟩; have R := R.past1 G hu; have K := G.k1 K hu; have HD := HD.upd hu (by simp; exact fun e => hfr (by simp [e])); have G := G1)
              | (go_at_call 40; refine (rgpin_c _ _ _ _ _ _ R d0 hd).mono ?_; rintro e w' ⟨rfl, hv, R1⟩; have G := G.past R hv; have K := R.k1 K hv; have HD := HD.upd hv (by simp; exact hfx); have R := R1))
            refine wp_named (fun W hW => ?_)
            have G := G.keeps (w' := W) (by rw [hW]; (repeat' (first | (with_reducible exact Keeps.refl _) | (with_reducible assumption) | (with_reducible refine Keeps.drewN ?_ _) | (with_reducible refine Keeps.drew ?_) | (with_reducible refine Keeps.alloc ?_ _) | (with_reducible refine Keeps.setCell ?_ ?_ _) | (with_reducible refine Keeps.trans ?_ (After.keeps _)) | (with_reducible refine Keeps.trans ?_ (by with_reducible assumption)) | go_size)))
            have R := R.keeps (w' := W) (by rw [hW]; (repeat' (first | (with_reducible exact Keeps.refl _) | (with_reducible assumption) | (with_reducible refine Keeps.drewN ?_ _) | (with_reducible refine Keeps.drew ?_) | (with_reducible refine Keeps.alloc ?_ _) | (with_reducible refine Keeps.setCell ?_ ?_ _) | (with_reducible refine Keeps.trans ?_ (After.keeps _)) | (with_reducible refine Keeps.trans ?_ (by with_reducible assumption)) | go_size)))
            have K := Keeps.trans K (show Keeps _ W by rw [hW]; (repeat' (first | (with_reducible exact Keeps.refl _) | (with_reducible assumption) | (with_reducible refine Keeps.drewN ?_ _) | (with_reducible refine Keeps.drew ?_) | (with_reducible refine Keeps.alloc ?_ _) | (with_reducible refine Keeps.setCell ?_ ?_ _) | (with_reducible refine Keeps.trans ?_ (After.keeps _)) | (with_reducible refine Keeps.trans ?_ (by with_reducible assumption)) | go_size)))
            have HD := HD.keeps (w' := W) (by rw [hW]; (repeat' (first | (with_reducible exact Keeps.refl _) | (with_reducible assumption) | (with_reducible refine Keeps.drewN ?_ _) | (with_reducible refine Keeps.drew ?_) | (with_reducible refine Keeps.alloc ?_ _) | (with_reducible refine Keeps.setCell ?_ ?_ _) | (with_reducible refine Keeps.trans ?_ (After.keeps _)) | (with_reducible refine Keeps.trans ?_ (by with_reducible assumption)) | go_size)))
            clear hW
            obtain ⟨ua, ucap, hu', -⟩ := R.row.form
            (try subst hu')
            have hX := fun q => rgrip_cells R q
            have hY := fun q => d3cells HD q
            have hLl := G.len
            (refine wp_region_after_lit (by kernel_rfl) (by kernel_rfl) ?_; (try simp only [List.append_eq, List.cons_append, List.nil_append]); (repeat (first | go_big_quiet_step ((first | (go_at_call 45; exact calls_after_same (gdepth_c _ _ _ _ _ _ (G.keeps (After.keeps _)))) | (go_at_call 46; exact calls_after_same (glen_c _ _ _ _ _ _ (G.keeps (After.keeps _)))) | (go_at_call 47; exact calls_after (gholds_c _ _ _ _ _ _ _ _ (G.keeps (After.keeps _)))) | (go_at_call 48; exact calls_after_same (rgholds_c _ _ _ _ _ _ _ _ (R.keeps (After.keeps _)))))) | ((with_reducible refine wpQuiet_step (fun K hK => ?_)); go_simp; first | (refine hK _ ?_; clear hK K) | (apply Exists.intro; refine ⟨fun _ => ?_, hK _ ?_⟩; (first | (go_at_call 45; exact calls_after_same (gdepth_c _ _ _ _ _ _ (G.keeps (After.keeps _)))) | (go_at_call 46; exact calls_after_same (glen_c _ _ _ _ _ _ (G.keeps (After.keeps _)))) | (go_at_call 47; exact calls_after (gholds_c _ _ _ _ _ _ _ _ (G.keeps (After.keeps _)))) | (go_at_call 48; exact calls_after_same (rgholds_c _ _ _ _ _ _ _ _ (R.keeps (After.keeps _))))); clear hK K) | (refine ⟨.bool false, fun _ => ?_, hK _ ?_⟩; (simp; done); clear hK K) | (refine ⟨.bool true, fun _ => ?_, hK _ ?_⟩; (simp; done); clear hK K)))); refine wpQuiet_nil ?_; intro _ hw'; obtain ⟨uq, hw''⟩ := hw'; subst hw'')
            go_wp2
            go_roundw
            case rel => exact ⟨k + 1, _, _, _, _, by omega, by go_num, G.keeps uq.keeps, R.keeps uq.keeps, K.trans uq.keeps, by omega, by omega, hL⟩
            case measure => simp [intOf]; omega
          · obtain rfl : d = 15 := by omega
            go_upto_region 14 with fail
            have HD := Has.new wr #[.int .i64 z0, .int .i64 z1, .int .i64 z2] 41
            have hfr := GripAt.fresh G (Nat.le_refl _)
            have hfx := RGripAt.fresh R (Nat.le_refl _)
            have G := G.keeps ((Keeps.refl wr).alloc (.cells #[.int .i64 z0, .int .i64 z1, .int .i64 z2] 41))
            have R := R.keeps ((Keeps.refl wr).alloc (.cells #[.int .i64 z0, .int .i64 z1, .int .i64 z2] 41))
            have K := K.alloc (.cells #[.int .i64 z0, .int .i64 z1, .int .i64 z2] 41)
            obtain ⟨dd, hdd⟩ : ∃ dd, dd = wr.heap.size := ⟨_, rfl⟩
            rw [← hdd] at hfr hfx HD
            rw [← hdd]
            clear hdd
            refine wp_named (fun W0 hW0 => ?_)
            rw [← hW0] at HD G R K
            clear hW0
            have F_ := (HD).facts; simp only [blockFacts, listFacts, cellsAt, Nat.reduceAdd, and_true, true_and, and_assoc] at F_
            go_upto_region 28 with (first
              | (go_at_call 38; refine (number_c _ _ _ (by omega) (by omega)).mono ?_; rintro e w' ⟨rfl, rfl⟩; rw [HQ.out])
              | (go_at_call 39; refine (gpin_full _ _ _ _ _ G).mono ?_; rintro e w' ⟨rfl, rfl⟩)
              | (go_at_call 40; refine (rgpin_full _ _ _ _ _ R).mono ?_; rintro e w' ⟨rfl, rfl⟩))
            refine wp_named (fun W hW => ?_)
            have G := G.keeps (w' := W) (by rw [hW]; (repeat' (first | (with_reducible exact Keeps.refl _) | (with_reducible assumption) | (with_reducible refine Keeps.drewN ?_ _) | (with_reducible refine Keeps.drew ?_) | (with_reducible refine Keeps.alloc ?_ _) | (with_reducible refine Keeps.setCell ?_ ?_ _) | (with_reducible refine Keeps.trans ?_ (After.keeps _)) | (with_reducible refine Keeps.trans ?_ (by with_reducible assumption)) | go_size)))
            have R := R.keeps (w' := W) (by rw [hW]; (repeat' (first | (with_reducible exact Keeps.refl _) | (with_reducible assumption) | (with_reducible refine Keeps.drewN ?_ _) | (with_reducible refine Keeps.drew ?_) | (with_reducible refine Keeps.alloc ?_ _) | (with_reducible refine Keeps.setCell ?_ ?_ _) | (with_reducible refine Keeps.trans ?_ (After.keeps _)) | (with_reducible refine Keeps.trans ?_ (by with_reducible assumption)) | go_size)))
            have K := Keeps.trans K (show Keeps _ W by rw [hW]; (repeat' (first | (with_reducible exact Keeps.refl _) | (with_reducible assumption) | (with_reducible refine Keeps.drewN ?_ _) | (with_reducible refine Keeps.drew ?_) | (with_reducible refine Keeps.alloc ?_ _) | (with_reducible refine Keeps.setCell ?_ ?_ _) | (with_reducible refine Keeps.trans ?_ (After.keeps _)) | (with_reducible refine Keeps.trans ?_ (by with_reducible assumption)) | go_size)))
            have HD := HD.keeps (w' := W) (by rw [hW]; (repeat' (first | (with_reducible exact Keeps.refl _) | (with_reducible assumption) | (with_reducible refine Keeps.drewN ?_ _) | (with_reducible refine Keeps.drew ?_) | (with_reducible refine Keeps.alloc ?_ _) | (with_reducible refine Keeps.setCell ?_ ?_ _) | (with_reducible refine Keeps.trans ?_ (After.keeps _)) | (with_reducible refine Keeps.trans ?_ (by with_reducible assumption)) | go_size)))
            clear hW
            obtain ⟨ua, ucap, hu', -⟩ := R.row.form
            (try subst hu')
            have hX := fun q => rgrip_cells R q
            have hY := fun q => d3cells HD q
            have hLl := G.len
            (refine wp_region_after_lit (by kernel_rfl) (by kernel_rfl) ?_; (try simp only [List.append_eq, List.cons_append, List.nil_append]); (repeat (first | go_big_quiet_step ((first | (go_at_call 45; exact calls_after_same (gdepth_c _ _ _ _ _ _ (G.keeps (After.keeps _)))) | (go_at_call 46; exact calls_after_same (glen_c _ _ _ _ _ _ (G.keeps (After.keeps _)))) | (go_at_call 47; exact calls_after (gholds_c _ _ _ _ _ _ _ _ (G.keeps (After.keeps _)))) | (go_at_call 48; exact calls_after_same (rgholds_c _ _ _ _ _ _ _ _ (R.keeps (After.keeps _)))))) | ((with_reducible refine wpQuiet_step (fun K hK => ?_)); go_simp; first | (refine hK _ ?_; clear hK K) | (apply Exists.intro; refine ⟨fun _ => ?_, hK _ ?_⟩; (first | (go_at_call 45; exact calls_after_same (gdepth_c _ _ _ _ _ _ (G.keeps (After.keeps _)))) | (go_at_call 46; exact calls_after_same (glen_c _ _ _ _ _ _ (G.keeps (After.keeps _)))) | (go_at_call 47; exact calls_after (gholds_c _ _ _ _ _ _ _ _ (G.keeps (After.keeps _)))) | (go_at_call 48; exact calls_after_same (rgholds_c _ _ _ _ _ _ _ _ (R.keeps (After.keeps _))))); clear hK K) | (refine ⟨.bool false, fun _ => ?_, hK _ ?_⟩; (simp; done); clear hK K) | (refine ⟨.bool true, fun _ => ?_, hK _ ?_⟩; (simp; done); clear hK K)))); refine wpQuiet_nil ?_; intro _ hw'; obtain ⟨uq, hw''⟩ := hw'; subst hw'')
            go_wp2
            go_roundw
            case rel => exact ⟨k + 1, _, _, _, _, by omega, by go_num, G.keeps uq.keeps, R.keeps uq.keeps, K.trans uq.keeps, by omega, by omega, hL⟩
            case measure => simp [intOf]; omega
        · by_cases hd : d < 15
          · skip
            go_upto_region 14 with fail
            have HD := Has.new wr #[.int .i64 z0, .int .i64 z1, .int .i64 z2] 41
            have hfr := GripAt.fresh G (Nat.le_refl _)
            have hfx := RGripAt.fresh R (Nat.le_refl _)
            have G := G.keeps ((Keeps.refl wr).alloc (.cells #[.int .i64 z0, .int .i64 z1, .int .i64 z2] 41))
            have R := R.keeps ((Keeps.refl wr).alloc (.cells #[.int .i64 z0, .int .i64 z1, .int .i64 z2] 41))
            have K := K.alloc (.cells #[.int .i64 z0, .int .i64 z1, .int .i64 z2] 41)
            obtain ⟨dd, hdd⟩ : ∃ dd, dd = wr.heap.size := ⟨_, rfl⟩
            rw [← hdd] at hfr hfx HD
            rw [← hdd]
            clear hdd
            refine wp_named (fun W0 hW0 => ?_)
            rw [← hW0] at HD G R K
            clear hW0
            have F_ := (HD).facts; simp only [blockFacts, listFacts, cellsAt, Nat.reduceAdd, and_true, true_and, and_assoc] at F_
            go_upto_region 28 with (first
              | (go_at_call 38; refine (number_c _ _ _ (by omega) (by omega)).mono ?_; rintro e w' ⟨rfl, rfl⟩; rw [HQ.out])
              | (go_at_call 39; refine (gpin_c _ _ _ _ _ _ G d0 hd).mono ?_; rintro e w' ⟨rfl, hu, G1⟩; have R := R.past1 G hu; have K := G.k1 K hu; have HD := HD.upd hu (by simp; exact fun e => hfr (by simp [e])); have G := G1)
              | (go_at_call 40; refine (rgpin_c _ _ _ _ _ _ R d0 hd).mono ?_; rintro e w' ⟨rfl, hv, R1⟩; have G := G.past R hv; have K := R.k1 K hv; have HD := HD.upd hv (by simp; exact hfx); have R := R1))
            refine wp_named (fun W hW => ?_)
            have G := G.keeps (w' := W) (by rw [hW]; (repeat' (first | (with_reducible exact Keeps.refl _) | (with_reducible assumption) | (with_reducible refine Keeps.drewN ?_ _) | (with_reducible refine Keeps.drew ?_) | (with_reducible refine Keeps.alloc ?_ _) | (with_reducible refine Keeps.setCell ?_ ?_ _) | (with_reducible refine Keeps.trans ?_ (After.keeps _)) | (with_reducible refine Keeps.trans ?_ (by with_reducible assumption)) | go_size)))
            have R := R.keeps (w' := W) (by rw [hW]; (repeat' (first | (with_reducible exact Keeps.refl _) | (with_reducible assumption) | (with_reducible refine Keeps.drewN ?_ _) | (with_reducible refine Keeps.drew ?_) | (with_reducible refine Keeps.alloc ?_ _) | (with_reducible refine Keeps.setCell ?_ ?_ _) | (with_reducible refine Keeps.trans ?_ (After.keeps _)) | (with_reducible refine Keeps.trans ?_ (by with_reducible assumption)) | go_size)))
            have K := Keeps.trans K (show Keeps _ W by rw [hW]; (repeat' (first | (with_reducible exact Keeps.refl _) | (with_reducible assumption) | (with_reducible refine Keeps.drewN ?_ _) | (with_reducible refine Keeps.drew ?_) | (with_reducible refine Keeps.alloc ?_ _) | (with_reducible refine Keeps.setCell ?_ ?_ _) | (with_reducible refine Keeps.trans ?_ (After.keeps _)) | (with_reducible refine Keeps.trans ?_ (by with_reducible assumption)) | go_size)))
            have HD := HD.keeps (w' := W) (by rw [hW]; (repeat' (first | (with_reducible exact Keeps.refl _) | (with_reducible assumption) | (with_reducible refine Keeps.drewN ?_ _) | (with_reducible refine Keeps.drew ?_) | (with_reducible refine Keeps.alloc ?_ _) | (with_reducible refine Keeps.setCell ?_ ?_ _) | (with_reducible refine Keeps.trans ?_ (After.keeps _)) | (with_reducible refine Keeps.trans ?_ (by with_reducible assumption)) | go_size)))
            clear hW
            obtain ⟨ua, ucap, hu', -⟩ := R.row.form
            (try subst hu')
            have hX := fun q => rgrip_cells R q
            have hY := fun q => d3cells HD q
            have hLl := G.len
            (refine wp_region_after_lit (by kernel_rfl) (by kernel_rfl) ?_; (try simp only [List.append_eq, List.cons_append, List.nil_append]); (repeat (first | go_big_quiet_step ((first | (go_at_call 45; exact calls_after_same (gdepth_c _ _ _ _ _ _ (G.keeps (After.keeps _)))) | (go_at_call 46; exact calls_after_same (glen_c _ _ _ _ _ _ (G.keeps (After.keeps _)))) | (go_at_call 47; exact calls_after (gholds_c _ _ _ _ _ _ _ _ (G.keeps (After.keeps _)))) | (go_at_call 48; exact calls_after_same (rgholds_c _ _ _ _ _ _ _ _ (R.keeps (After.keeps _)))))) | ((with_reducible refine wpQuiet_step (fun K hK => ?_)); go_simp; first | (refine hK _ ?_; clear hK K) | (apply Exists.intro; refine ⟨fun _ => ?_, hK _ ?_⟩; (first | (go_at_call 45; exact calls_after_same (gdepth_c _ _ _ _ _ _ (G.keeps (After.keeps _)))) | (go_at_call 46; exact calls_after_same (glen_c _ _ _ _ _ _ (G.keeps (After.keeps _)))) | (go_at_call 47; exact calls_after (gholds_c _ _ _ _ _ _ _ _ (G.keeps (After.keeps _)))) | (go_at_call 48; exact calls_after_same (rgholds_c _ _ _ _ _ _ _ _ (R.keeps (After.keeps _))))); clear hK K) | (refine ⟨.bool false, fun _ => ?_, hK _ ?_⟩; (simp; done); clear hK K) | (refine ⟨.bool true, fun _ => ?_, hK _ ?_⟩; (simp; done); clear hK K)))); refine wpQuiet_nil ?_; intro _ hw'; obtain ⟨uq, hw''⟩ := hw'; subst hw'')
            go_wp2
            go_roundw
            case rel => exact ⟨k + 1, _, _, _, _, by omega, by go_num, G.keeps uq.keeps, R.keeps uq.keeps, K.trans uq.keeps, by omega, by omega, hL⟩
            case measure => simp [intOf]; omega
          · obtain rfl : d = 15 := by omega
            go_upto_region 14 with fail
            have HD := Has.new wr #[.int .i64 z0, .int .i64 z1, .int .i64 z2] 41
            have hfr := GripAt.fresh G (Nat.le_refl _)
            have hfx := RGripAt.fresh R (Nat.le_refl _)
            have G := G.keeps ((Keeps.refl wr).alloc (.cells #[.int .i64 z0, .int .i64 z1, .int .i64 z2] 41))
            have R := R.keeps ((Keeps.refl wr).alloc (.cells #[.int .i64 z0, .int .i64 z1, .int .i64 z2] 41))
            have K := K.alloc (.cells #[.int .i64 z0, .int .i64 z1, .int .i64 z2] 41)
            obtain ⟨dd, hdd⟩ : ∃ dd, dd = wr.heap.size := ⟨_, rfl⟩
            rw [← hdd] at hfr hfx HD
            rw [← hdd]
            clear hdd
            refine wp_named (fun W0 hW0 => ?_)
            rw [← hW0] at HD G R K
            clear hW0
            have F_ := (HD).facts; simp only [blockFacts, listFacts, cellsAt, Nat.reduceAdd, and_true, true_and, and_assoc] at F_
            go_upto_region 28 with (first
              | (go_at_call 38; refine (number_c _ _ _ (by omega) (by omega)).mono ?_; rintro e w' ⟨rfl, rfl⟩; rw [HQ.out])
              | (go_at_call 39; refine (gpin_full _ _ _ _ _ G).mono ?_; rintro e w' ⟨rfl, rfl⟩)
              | (go_at_call 40; refine (rgpin_full _ _ _ _ _ R).mono ?_; rintro e w' ⟨rfl, rfl⟩))
            refine wp_named (fun W hW => ?_)
            have G := G.keeps (w' := W) (by rw [hW]; (repeat' (first | (with_reducible exact Keeps.refl _) | (with_reducible assumption) | (with_reducible refine Keeps.drewN ?_ _) | (with_reducible refine Keeps.drew ?_) | (with_reducible refine Keeps.alloc ?_ _) | (with_reducible refine Keeps.setCell ?_ ?_ _) | (with_reducible refine Keeps.trans ?_ (After.keeps _)) | (with_reducible refine Keeps.trans ?_ (by with_reducible assumption)) | go_size)))
            have R := R.keeps (w' := W) (by rw [hW]; (repeat' (first | (with_reducible exact Keeps.refl _) | (with_reducible assumption) | (with_reducible refine Keeps.drewN ?_ _) | (with_reducible refine Keeps.drew ?_) | (with_reducible refine Keeps.alloc ?_ _) | (with_reducible refine Keeps.setCell ?_ ?_ _) | (with_reducible refine Keeps.trans ?_ (After.keeps _)) | (with_reducible refine Keeps.trans ?_ (by with_reducible assumption)) | go_size)))
            have K := Keeps.trans K (show Keeps _ W by rw [hW]; (repeat' (first | (with_reducible exact Keeps.refl _) | (with_reducible assumption) | (with_reducible refine Keeps.drewN ?_ _) | (with_reducible refine Keeps.drew ?_) | (with_reducible refine Keeps.alloc ?_ _) | (with_reducible refine Keeps.setCell ?_ ?_ _) | (with_reducible refine Keeps.trans ?_ (After.keeps _)) | (with_reducible refine Keeps.trans ?_ (by with_reducible assumption)) | go_size)))
            have HD := HD.keeps (w' := W) (by rw [hW]; (repeat' (first | (with_reducible exact Keeps.refl _) | (with_reducible assumption) | (with_reducible refine Keeps.drewN ?_ _) | (with_reducible refine Keeps.drew ?_) | (with_reducible refine Keeps.alloc ?_ _) | (with_reducible refine Keeps.setCell ?_ ?_ _) | (with_reducible refine Keeps.trans ?_ (After.keeps _)) | (with_reducible refine Keeps.trans ?_ (by with_reducible assumption)) | go_size)))
            clear hW
            obtain ⟨ua, ucap, hu', -⟩ := R.row.form
            (try subst hu')
            have hX := fun q => rgrip_cells R q
            have hY := fun q => d3cells HD q
            have hLl := G.len
            (refine wp_region_after_lit (by kernel_rfl) (by kernel_rfl) ?_; (try simp only [List.append_eq, List.cons_append, List.nil_append]); (repeat (first | go_big_quiet_step ((first | (go_at_call 45; exact calls_after_same (gdepth_c _ _ _ _ _ _ (G.keeps (After.keeps _)))) | (go_at_call 46; exact calls_after_same (glen_c _ _ _ _ _ _ (G.keeps (After.keeps _)))) | (go_at_call 47; exact calls_after (gholds_c _ _ _ _ _ _ _ _ (G.keeps (After.keeps _)))) | (go_at_call 48; exact calls_after_same (rgholds_c _ _ _ _ _ _ _ _ (R.keeps (After.keeps _)))))) | ((with_reducible refine wpQuiet_step (fun K hK => ?_)); go_simp; first | (refine hK _ ?_; clear hK K) | (apply Exists.intro; refine ⟨fun _ => ?_, hK _ ?_⟩; (first | (go_at_call 45; exact calls_after_same (gdepth_c _ _ _ _ _ _ (G.keeps (After.keeps _)))) | (go_at_call 46; exact calls_after_same (glen_c _ _ _ _ _ _ (G.keeps (After.keeps _)))) | (go_at_call 47; exact calls_after (gholds_c _ _ _ _ _ _ _ _ (G.keeps (After.keeps _)))) | (go_at_call 48; exact calls_after_same (rgholds_c _ _ _ _ _ _ _ _ (R.keeps (After.keeps _))))); clear hK K) | (refine ⟨.bool false, fun _ => ?_, hK _ ?_⟩; (simp; done); clear hK K) | (refine ⟨.bool true, fun _ => ?_, hK _ ?_⟩; (simp; done); clear hK K)))); refine wpQuiet_nil ?_; intro _ hw'; obtain ⟨uq, hw''⟩ := hw'; subst hw'')
            go_wp2
            go_roundw
            case rel => exact ⟨k + 1, _, _, _, _, by omega, by go_num, G.keeps uq.keeps, R.keeps uq.keeps, K.trans uq.keeps, by omega, by omega, hL⟩
            case measure => simp [intOf]; omega
        · by_cases h0 : d = 0
          · subst h0
            go_upto_region 14 with fail
            have HD := Has.new wr #[.int .i64 z0, .int .i64 z1, .int .i64 z2] 41
            have hfr := GripAt.fresh G (Nat.le_refl _)
            have hfx := RGripAt.fresh R (Nat.le_refl _)
            have G := G.keeps ((Keeps.refl wr).alloc (.cells #[.int .i64 z0, .int .i64 z1, .int .i64 z2] 41))
            have R := R.keeps ((Keeps.refl wr).alloc (.cells #[.int .i64 z0, .int .i64 z1, .int .i64 z2] 41))
            have K := K.alloc (.cells #[.int .i64 z0, .int .i64 z1, .int .i64 z2] 41)
            obtain ⟨dd, hdd⟩ : ∃ dd, dd = wr.heap.size := ⟨_, rfl⟩
            rw [← hdd] at hfr hfx HD
            rw [← hdd]
            clear hdd
            refine wp_named (fun W0 hW0 => ?_)
            rw [← hW0] at HD G R K
            clear hW0
            have F_ := (HD).facts; simp only [blockFacts, listFacts, cellsAt, Nat.reduceAdd, and_true, true_and, and_assoc] at F_
            go_upto_region 28 with (first
              | (go_at_call 38; refine (number_c _ _ _ (by omega) (by omega)).mono ?_; rintro e w' ⟨rfl, rfl⟩; rw [HQ.out])
              | (go_at_call 41; refine (gunpin_none _ _ _ _ _ G).mono ?_; rintro e w' ⟨rfl, rfl⟩)
              | (go_at_call 42; refine (rgunpin_none _ _ _ _ _ R).mono ?_; rintro e w' ⟨rfl, rfl⟩))
            refine wp_named (fun W hW => ?_)
            have G := G.keeps (w' := W) (by rw [hW]; (repeat' (first | (with_reducible exact Keeps.refl _) | (with_reducible assumption) | (with_reducible refine Keeps.drewN ?_ _) | (with_reducible refine Keeps.drew ?_) | (with_reducible refine Keeps.alloc ?_ _) | (with_reducible refine Keeps.setCell ?_ ?_ _) | (with_reducible refine Keeps.trans ?_ (After.keeps _)) | (with_reducible refine Keeps.trans ?_ (by with_reducible assumption)) | go_size)))
            have R := R.keeps (w' := W) (by rw [hW]; (repeat' (first | (with_reducible exact Keeps.refl _) | (with_reducible assumption) | (with_reducible refine Keeps.drewN ?_ _) | (with_reducible refine Keeps.drew ?_) | (with_reducible refine Keeps.alloc ?_ _) | (with_reducible refine Keeps.setCell ?_ ?_ _) | (with_reducible refine Keeps.trans ?_ (After.keeps _)) | (with_reducible refine Keeps.trans ?_ (by with_reducible assumption)) | go_size)))
            have K := Keeps.trans K (show Keeps _ W by rw [hW]; (repeat' (first | (with_reducible exact Keeps.refl _) | (with_reducible assumption) | (with_reducible refine Keeps.drewN ?_ _) | (with_reducible refine Keeps.drew ?_) | (with_reducible refine Keeps.alloc ?_ _) | (with_reducible refine Keeps.setCell ?_ ?_ _) | (with_reducible refine Keeps.trans ?_ (After.keeps _)) | (with_reducible refine Keeps.trans ?_ (by with_reducible assumption)) | go_size)))
            have HD := HD.keeps (w' := W) (by rw [hW]; (repeat' (first | (with_reducible exact Keeps.refl _) | (with_reducible assumption) | (with_reducible refine Keeps.drewN ?_ _) | (with_reducible refine Keeps.drew ?_) | (with_reducible refine Keeps.alloc ?_ _) | (with_reducible refine Keeps.setCell ?_ ?_ _) | (with_reducible refine Keeps.trans ?_ (After.keeps _)) | (with_reducible refine Keeps.trans ?_ (by with_reducible assumption)) | go_size)))
            clear hW
            obtain ⟨ua, ucap, hu', -⟩ := R.row.form
            (try subst hu')
            have hX := fun q => rgrip_cells R q
            have hY := fun q => d3cells HD q
            have hLl := G.len
            (refine wp_region_after_lit (by kernel_rfl) (by kernel_rfl) ?_; (try simp only [List.append_eq, List.cons_append, List.nil_append]); (repeat (first | go_big_quiet_step ((first | (go_at_call 45; exact calls_after_same (gdepth_c _ _ _ _ _ _ (G.keeps (After.keeps _)))) | (go_at_call 46; exact calls_after_same (glen_c _ _ _ _ _ _ (G.keeps (After.keeps _)))) | (go_at_call 47; exact calls_after (gholds_c _ _ _ _ _ _ _ _ (G.keeps (After.keeps _)))) | (go_at_call 48; exact calls_after_same (rgholds_c _ _ _ _ _ _ _ _ (R.keeps (After.keeps _)))))) | ((with_reducible refine wpQuiet_step (fun K hK => ?_)); go_simp; first | (refine hK _ ?_; clear hK K) | (apply Exists.intro; refine ⟨fun _ => ?_, hK _ ?_⟩; (first | (go_at_call 45; exact calls_after_same (gdepth_c _ _ _ _ _ _ (G.keeps (After.keeps _)))) | (go_at_call 46; exact calls_after_same (glen_c _ _ _ _ _ _ (G.keeps (After.keeps _)))) | (go_at_call 47; exact calls_after (gholds_c _ _ _ _ _ _ _ _ (G.keeps (After.keeps _)))) | (go_at_call 48; exact calls_after_same (rgholds_c _ _ _ _ _ _ _ _ (R.keeps (After.keeps _))))); clear hK K) | (refine ⟨.bool false, fun _ => ?_, hK _ ?_⟩; (simp; done); clear hK K) | (refine ⟨.bool true, fun _ => ?_, hK _ ?_⟩; (simp; done); clear hK K)))); refine wpQuiet_nil ?_; intro _ hw'; obtain ⟨uq, hw''⟩ := hw'; subst hw'')
            go_wp2
            go_roundw
            case rel => exact ⟨k + 1, _, _, _, _, by omega, by go_num, G.keeps uq.keeps, R.keeps uq.keeps, K.trans uq.keeps, by omega, by omega, hL⟩
            case measure => simp [intOf]; omega
          by_cases h1 : d = 1
          · subst h1
            go_upto_region 14 with fail
            have HD := Has.new wr #[.int .i64 z0, .int .i64 z1, .int .i64 z2] 41
            have hfr := GripAt.fresh G (Nat.le_refl _)
            have hfx := RGripAt.fresh R (Nat.le_refl _)
            have G := G.keeps ((Keeps.refl wr).alloc (.cells #[.int .i64 z0, .int .i64 z1, .int .i64 z2] 41))
            have R := R.keeps ((Keeps.refl wr).alloc (.cells #[.int .i64 z0, .int .i64 z1, .int .i64 z2] 41))
            have K := K.alloc (.cells #[.int .i64 z0, .int .i64 z1, .int .i64 z2] 41)
            obtain ⟨dd, hdd⟩ : ∃ dd, dd = wr.heap.size := ⟨_, rfl⟩
            rw [← hdd] at hfr hfx HD
            rw [← hdd]
            clear hdd
            refine wp_named (fun W0 hW0 => ?_)
            rw [← hW0] at HD G R K
            clear hW0
            have F_ := (HD).facts; simp only [blockFacts, listFacts, cellsAt, Nat.reduceAdd, and_true, true_and, and_assoc] at F_
            go_upto_region 28 with (first
              | (go_at_call 38; refine (number_c _ _ _ (by omega) (by omega)).mono ?_; rintro e w' ⟨rfl, rfl⟩; rw [HQ.out])
              | (go_at_call 41; refine (gunpin_last _ _ _ _ _ G).mono ?_; rintro e w' ⟨rfl, hu, G1⟩; have R := R.past1 G hu; have K := G.k1 K hu; have HD := HD.upd hu (by simp; exact fun e => hfr (by simp [e])); have G := G1)
              | (go_at_call 42; refine (rgunpin_last _ _ _ _ _ R).mono ?_; rintro e w' ⟨rfl, hv, R1⟩; have G := G.past R hv; have K := R.k1 K hv; have HD := HD.upd hv (by simp; exact hfx); have R := R1))
            refine wp_named (fun W hW => ?_)
            have G := G.keeps (w' := W) (by rw [hW]; (repeat' (first | (with_reducible exact Keeps.refl _) | (with_reducible assumption) | (with_reducible refine Keeps.drewN ?_ _) | (with_reducible refine Keeps.drew ?_) | (with_reducible refine Keeps.alloc ?_ _) | (with_reducible refine Keeps.setCell ?_ ?_ _) | (with_reducible refine Keeps.trans ?_ (After.keeps _)) | (with_reducible refine Keeps.trans ?_ (by with_reducible assumption)) | go_size)))
            have R := R.keeps (w' := W) (by rw [hW]; (repeat' (first | (with_reducible exact Keeps.refl _) | (with_reducible assumption) | (with_reducible refine Keeps.drewN ?_ _) | (with_reducible refine Keeps.drew ?_) | (with_reducible refine Keeps.alloc ?_ _) | (with_reducible refine Keeps.setCell ?_ ?_ _) | (with_reducible refine Keeps.trans ?_ (After.keeps _)) | (with_reducible refine Keeps.trans ?_ (by with_reducible assumption)) | go_size)))
            have K := Keeps.trans K (show Keeps _ W by rw [hW]; (repeat' (first | (with_reducible exact Keeps.refl _) | (with_reducible assumption) | (with_reducible refine Keeps.drewN ?_ _) | (with_reducible refine Keeps.drew ?_) | (with_reducible refine Keeps.alloc ?_ _) | (with_reducible refine Keeps.setCell ?_ ?_ _) | (with_reducible refine Keeps.trans ?_ (After.keeps _)) | (with_reducible refine Keeps.trans ?_ (by with_reducible assumption)) | go_size)))
            have HD := HD.keeps (w' := W) (by rw [hW]; (repeat' (first | (with_reducible exact Keeps.refl _) | (with_reducible assumption) | (with_reducible refine Keeps.drewN ?_ _) | (with_reducible refine Keeps.drew ?_) | (with_reducible refine Keeps.alloc ?_ _) | (with_reducible refine Keeps.setCell ?_ ?_ _) | (with_reducible refine Keeps.trans ?_ (After.keeps _)) | (with_reducible refine Keeps.trans ?_ (by with_reducible assumption)) | go_size)))
            clear hW
            obtain ⟨ua, ucap, hu', -⟩ := R.row.form
            (try subst hu')
            have hX := fun q => rgrip_cells R q
            have hY := fun q => d3cells HD q
            have hLl := G.len
            (refine wp_region_after_lit (by kernel_rfl) (by kernel_rfl) ?_; (try simp only [List.append_eq, List.cons_append, List.nil_append]); (repeat (first | go_big_quiet_step ((first | (go_at_call 45; exact calls_after_same (gdepth_c _ _ _ _ _ _ (G.keeps (After.keeps _)))) | (go_at_call 46; exact calls_after_same (glen_c _ _ _ _ _ _ (G.keeps (After.keeps _)))) | (go_at_call 47; exact calls_after (gholds_c _ _ _ _ _ _ _ _ (G.keeps (After.keeps _)))) | (go_at_call 48; exact calls_after_same (rgholds_c _ _ _ _ _ _ _ _ (R.keeps (After.keeps _)))))) | ((with_reducible refine wpQuiet_step (fun K hK => ?_)); go_simp; first | (refine hK _ ?_; clear hK K) | (apply Exists.intro; refine ⟨fun _ => ?_, hK _ ?_⟩; (first | (go_at_call 45; exact calls_after_same (gdepth_c _ _ _ _ _ _ (G.keeps (After.keeps _)))) | (go_at_call 46; exact calls_after_same (glen_c _ _ _ _ _ _ (G.keeps (After.keeps _)))) | (go_at_call 47; exact calls_after (gholds_c _ _ _ _ _ _ _ _ (G.keeps (After.keeps _)))) | (go_at_call 48; exact calls_after_same (rgholds_c _ _ _ _ _ _ _ _ (R.keeps (After.keeps _))))); clear hK K) | (refine ⟨.bool false, fun _ => ?_, hK _ ?_⟩; (simp; done); clear hK K) | (refine ⟨.bool true, fun _ => ?_, hK _ ?_⟩; (simp; done); clear hK K)))); refine wpQuiet_nil ?_; intro _ hw'; obtain ⟨uq, hw''⟩ := hw'; subst hw'')
            go_wp2
            go_roundw
            case rel => exact ⟨k + 1, _, _, _, _, by omega, by go_num, G.keeps uq.keeps, R.keeps uq.keeps, K.trans uq.keeps, by omega, by omega, by simp⟩
            case measure => simp [intOf]; omega
          have hd : 1 < d := by omega
          go_upto_region 14 with fail
          have HD := Has.new wr #[.int .i64 z0, .int .i64 z1, .int .i64 z2] 41
          have hfr := GripAt.fresh G (Nat.le_refl _)
          have hfx := RGripAt.fresh R (Nat.le_refl _)
          have G := G.keeps ((Keeps.refl wr).alloc (.cells #[.int .i64 z0, .int .i64 z1, .int .i64 z2] 41))
          have R := R.keeps ((Keeps.refl wr).alloc (.cells #[.int .i64 z0, .int .i64 z1, .int .i64 z2] 41))
          have K := K.alloc (.cells #[.int .i64 z0, .int .i64 z1, .int .i64 z2] 41)
          obtain ⟨dd, hdd⟩ : ∃ dd, dd = wr.heap.size := ⟨_, rfl⟩
          rw [← hdd] at hfr hfx HD
          rw [← hdd]
          clear hdd
          refine wp_named (fun W0 hW0 => ?_)
          rw [← hW0] at HD G R K
          clear hW0
          have F_ := (HD).facts; simp only [blockFacts, listFacts, cellsAt, Nat.reduceAdd, and_true, true_and, and_assoc] at F_
          go_upto_region 28 with (first
            | (go_at_call 38; refine (number_c _ _ _ (by omega) (by omega)).mono ?_; rintro e w' ⟨rfl, rfl⟩; rw [HQ.out])
            | (go_at_call 41; refine (gunpin_more _ _ _ _ _ _ G hd d1).mono ?_; rintro e w' ⟨rfl, hu, G1⟩; have R := R.past1 G hu; have K := G.k1 K hu; have HD := HD.upd hu (by simp; exact fun e => hfr (by simp [e])); have G := G1)
            | (go_at_call 42; refine (rgunpin_more _ _ _ _ _ _ R hd d1).mono ?_; rintro e w' ⟨rfl, hv, R1⟩; have G := G.past R hv; have K := R.k1 K hv; have HD := HD.upd hv (by simp; exact hfx); have R := R1))
          refine wp_named (fun W hW => ?_)
          have G := G.keeps (w' := W) (by rw [hW]; (repeat' (first | (with_reducible exact Keeps.refl _) | (with_reducible assumption) | (with_reducible refine Keeps.drewN ?_ _) | (with_reducible refine Keeps.drew ?_) | (with_reducible refine Keeps.alloc ?_ _) | (with_reducible refine Keeps.setCell ?_ ?_ _) | (with_reducible refine Keeps.trans ?_ (After.keeps _)) | (with_reducible refine Keeps.trans ?_ (by with_reducible assumption)) | go_size)))
          have R := R.keeps (w' := W) (by rw [hW]; (repeat' (first | (with_reducible exact Keeps.refl _) | (with_reducible assumption) | (with_reducible refine Keeps.drewN ?_ _) | (with_reducible refine Keeps.drew ?_) | (with_reducible refine Keeps.alloc ?_ _) | (with_reducible refine Keeps.setCell ?_ ?_ _) | (with_reducible refine Keeps.trans ?_ (After.keeps _)) | (with_reducible refine Keeps.trans ?_ (by with_reducible assumption)) | go_size)))
          have K := Keeps.trans K (show Keeps _ W by rw [hW]; (repeat' (first | (with_reducible exact Keeps.refl _) | (with_reducible assumption) | (with_reducible refine Keeps.drewN ?_ _) | (with_reducible refine Keeps.drew ?_) | (with_reducible refine Keeps.alloc ?_ _) | (with_reducible refine Keeps.setCell ?_ ?_ _) | (with_reducible refine Keeps.trans ?_ (After.keeps _)) | (with_reducible refine Keeps.trans ?_ (by with_reducible assumption)) | go_size)))
          have HD := HD.keeps (w' := W) (by rw [hW]; (repeat' (first | (with_reducible exact Keeps.refl _) | (with_reducible assumption) | (with_reducible refine Keeps.drewN ?_ _) | (with_reducible refine Keeps.drew ?_) | (with_reducible refine Keeps.alloc ?_ _) | (with_reducible refine Keeps.setCell ?_ ?_ _) | (with_reducible refine Keeps.trans ?_ (After.keeps _)) | (with_reducible refine Keeps.trans ?_ (by with_reducible assumption)) | go_size)))
          clear hW
          obtain ⟨ua, ucap, hu', -⟩ := R.row.form
          (try subst hu')
          have hX := fun q => rgrip_cells R q
          have hY := fun q => d3cells HD q
          have hLl := G.len
          (refine wp_region_after_lit (by kernel_rfl) (by kernel_rfl) ?_; (try simp only [List.append_eq, List.cons_append, List.nil_append]); (repeat (first | go_big_quiet_step ((first | (go_at_call 45; exact calls_after_same (gdepth_c _ _ _ _ _ _ (G.keeps (After.keeps _)))) | (go_at_call 46; exact calls_after_same (glen_c _ _ _ _ _ _ (G.keeps (After.keeps _)))) | (go_at_call 47; exact calls_after (gholds_c _ _ _ _ _ _ _ _ (G.keeps (After.keeps _)))) | (go_at_call 48; exact calls_after_same (rgholds_c _ _ _ _ _ _ _ _ (R.keeps (After.keeps _)))))) | ((with_reducible refine wpQuiet_step (fun K hK => ?_)); go_simp; first | (refine hK _ ?_; clear hK K) | (apply Exists.intro; refine ⟨fun _ => ?_, hK _ ?_⟩; (first | (go_at_call 45; exact calls_after_same (gdepth_c _ _ _ _ _ _ (G.keeps (After.keeps _)))) | (go_at_call 46; exact calls_after_same (glen_c _ _ _ _ _ _ (G.keeps (After.keeps _)))) | (go_at_call 47; exact calls_after (gholds_c _ _ _ _ _ _ _ _ (G.keeps (After.keeps _)))) | (go_at_call 48; exact calls_after_same (rgholds_c _ _ _ _ _ _ _ _ (R.keeps (After.keeps _))))); clear hK K) | (refine ⟨.bool false, fun _ => ?_, hK _ ?_⟩; (simp; done); clear hK K) | (refine ⟨.bool true, fun _ => ?_, hK _ ?_⟩; (simp; done); clear hK K)))); refine wpQuiet_nil ?_; intro _ hw'; obtain ⟨uq, hw''⟩ := hw'; subst hw'')
          go_wp2
          go_roundw
          case rel => exact ⟨k + 1, _, _, _, _, by omega, by go_num, G.keeps uq.keeps, R.keeps uq.keeps, K.trans uq.keeps, by omega, by omega, hL⟩
          case measure => simp [intOf]; omega
        · by_cases h0 : d = 0
          · subst h0
            go_upto_region 14 with fail
            have HD := Has.new wr #[.int .i64 z0, .int .i64 z1, .int .i64 z2] 41
            have hfr := GripAt.fresh G (Nat.le_refl _)
            have hfx := RGripAt.fresh R (Nat.le_refl _)
            have G := G.keeps ((Keeps.refl wr).alloc (.cells #[.int .i64 z0, .int .i64 z1, .int .i64 z2] 41))
            have R := R.keeps ((Keeps.refl wr).alloc (.cells #[.int .i64 z0, .int .i64 z1, .int .i64 z2] 41))
            have K := K.alloc (.cells #[.int .i64 z0, .int .i64 z1, .int .i64 z2] 41)
            obtain ⟨dd, hdd⟩ : ∃ dd, dd = wr.heap.size := ⟨_, rfl⟩
            rw [← hdd] at hfr hfx HD
            rw [← hdd]
            clear hdd
            refine wp_named (fun W0 hW0 => ?_)
            rw [← hW0] at HD G R K
            clear hW0
            have F_ := (HD).facts; simp only [blockFacts, listFacts, cellsAt, Nat.reduceAdd, and_true, true_and, and_assoc] at F_
            go_upto_region 15 with (go_at_call 38; refine (number_c _ _ _ (by omega) (by omega)).mono ?_; rintro e w' ⟨rfl, rfl⟩; rw [HQ.out])
            go_region_held3 (fun q => q.cell? ⟨dd, 1, none⟩ = some (.int .i64 z1) ∧ q.cell? ⟨dd, 2, none⟩ = some (.int .i64 z2)) (refine ⟨Has.cell (show Has _ dd #[.int .i64 z0, .int .i64 z1, .int .i64 z2] 41 from HD.keeps (by (repeat' (first | (with_reducible exact Keeps.refl _) | (with_reducible assumption) | (with_reducible refine Keeps.drewN ?_ _) | (with_reducible refine Keeps.drew ?_) | (with_reducible refine Keeps.alloc ?_ _) | (with_reducible refine Keeps.setCell ?_ ?_ _) | (with_reducible refine Keeps.trans ?_ (After.keeps _)) | (with_reducible refine Keeps.trans ?_ (by with_reducible assumption)) | go_size)))) 1, Has.cell (show Has _ dd #[.int .i64 z0, .int .i64 z1, .int .i64 z2] 41 from HD.keeps (by (repeat' (first | (with_reducible exact Keeps.refl _) | (with_reducible assumption) | (with_reducible refine Keeps.drewN ?_ _) | (with_reducible refine Keeps.drew ?_) | (with_reducible refine Keeps.alloc ?_ _) | (with_reducible refine Keeps.setCell ?_ ?_ _) | (with_reducible refine Keeps.trans ?_ (After.keeps _)) | (with_reducible refine Keeps.trans ?_ (by with_reducible assumption)) | go_size)))) 2⟩) (first
              | (go_at_call 43; refine (ghold_unpinned _ _ _ _ _ _ _ (G.keeps (by (repeat' (first | (with_reducible exact Keeps.refl _) | (with_reducible assumption) | (with_reducible refine Keeps.drewN ?_ _) | (with_reducible refine Keeps.drew ?_) | (with_reducible refine Keeps.alloc ?_ _) | (with_reducible refine Keeps.setCell ?_ ?_ _) | (with_reducible refine Keeps.trans ?_ (After.keeps _)) | (with_reducible refine Keeps.trans ?_ (by with_reducible assumption)) | go_size))))).mono ?_; rintro e w' ⟨rfl, rfl⟩)
              | (go_at_call 44; refine (rghold_unpinned _ _ _ _ _ _ _ (R.keeps (by (repeat' (first | (with_reducible exact Keeps.refl _) | (with_reducible assumption) | (with_reducible refine Keeps.drewN ?_ _) | (with_reducible refine Keeps.drew ?_) | (with_reducible refine Keeps.alloc ?_ _) | (with_reducible refine Keeps.setCell ?_ ?_ _) | (with_reducible refine Keeps.trans ?_ (After.keeps _)) | (with_reducible refine Keeps.trans ?_ (by with_reducible assumption)) | go_size))))).mono ?_; rintro e w' ⟨rfl, rfl⟩))
            go_upto_region 28 with fail
            refine wp_named (fun W hW => ?_)
            have G := G.keeps (w' := W) (by rw [hW]; (repeat' (first | (with_reducible exact Keeps.refl _) | (with_reducible assumption) | (with_reducible refine Keeps.drewN ?_ _) | (with_reducible refine Keeps.drew ?_) | (with_reducible refine Keeps.alloc ?_ _) | (with_reducible refine Keeps.setCell ?_ ?_ _) | (with_reducible refine Keeps.trans ?_ (After.keeps _)) | (with_reducible refine Keeps.trans ?_ (by with_reducible assumption)) | go_size)))
            have R := R.keeps (w' := W) (by rw [hW]; (repeat' (first | (with_reducible exact Keeps.refl _) | (with_reducible assumption) | (with_reducible refine Keeps.drewN ?_ _) | (with_reducible refine Keeps.drew ?_) | (with_reducible refine Keeps.alloc ?_ _) | (with_reducible refine Keeps.setCell ?_ ?_ _) | (with_reducible refine Keeps.trans ?_ (After.keeps _)) | (with_reducible refine Keeps.trans ?_ (by with_reducible assumption)) | go_size)))
            have K := Keeps.trans K (show Keeps _ W by rw [hW]; (repeat' (first | (with_reducible exact Keeps.refl _) | (with_reducible assumption) | (with_reducible refine Keeps.drewN ?_ _) | (with_reducible refine Keeps.drew ?_) | (with_reducible refine Keeps.alloc ?_ _) | (with_reducible refine Keeps.setCell ?_ ?_ _) | (with_reducible refine Keeps.trans ?_ (After.keeps _)) | (with_reducible refine Keeps.trans ?_ (by with_reducible assumption)) | go_size)))
            have HD := HD.keeps (w' := W) (by rw [hW]; (repeat' (first | (with_reducible exact Keeps.refl _) | (with_reducible assumption) | (with_reducible refine Keeps.drewN ?_ _) | (with_reducible refine Keeps.drew ?_) | (with_reducible refine Keeps.alloc ?_ _) | (with_reducible refine Keeps.setCell ?_ ?_ _) | (with_reducible refine Keeps.trans ?_ (After.keeps _)) | (with_reducible refine Keeps.trans ?_ (by with_reducible assumption)) | go_size)))
            clear hW
            obtain ⟨ua, ucap, hu', -⟩ := R.row.form
            (try subst hu')
            have hX := fun q => rgrip_cells R q
            have hY := fun q => d3cells HD q
            have hLl := G.len
            (refine wp_region_after_lit (by kernel_rfl) (by kernel_rfl) ?_; (try simp only [List.append_eq, List.cons_append, List.nil_append]); (repeat (first | go_big_quiet_step ((first | (go_at_call 45; exact calls_after_same (gdepth_c _ _ _ _ _ _ (G.keeps (After.keeps _)))) | (go_at_call 46; exact calls_after_same (glen_c _ _ _ _ _ _ (G.keeps (After.keeps _)))) | (go_at_call 47; exact calls_after (gholds_c _ _ _ _ _ _ _ _ (G.keeps (After.keeps _)))) | (go_at_call 48; exact calls_after_same (rgholds_c _ _ _ _ _ _ _ _ (R.keeps (After.keeps _)))))) | ((with_reducible refine wpQuiet_step (fun K hK => ?_)); go_simp; first | (refine hK _ ?_; clear hK K) | (apply Exists.intro; refine ⟨fun _ => ?_, hK _ ?_⟩; (first | (go_at_call 45; exact calls_after_same (gdepth_c _ _ _ _ _ _ (G.keeps (After.keeps _)))) | (go_at_call 46; exact calls_after_same (glen_c _ _ _ _ _ _ (G.keeps (After.keeps _)))) | (go_at_call 47; exact calls_after (gholds_c _ _ _ _ _ _ _ _ (G.keeps (After.keeps _)))) | (go_at_call 48; exact calls_after_same (rgholds_c _ _ _ _ _ _ _ _ (R.keeps (After.keeps _))))); clear hK K) | (refine ⟨.bool false, fun _ => ?_, hK _ ?_⟩; (simp; done); clear hK K) | (refine ⟨.bool true, fun _ => ?_, hK _ ?_⟩; (simp; done); clear hK K)))); refine wpQuiet_nil ?_; intro _ hw'; obtain ⟨uq, hw''⟩ := hw'; subst hw'')
            go_wp2
            go_roundw
            case rel => exact ⟨k + 1, _, _, _, _, by omega, by go_num, G.keeps uq.keeps, R.keeps uq.keeps, K.trans uq.keeps, by omega, by omega, hL⟩
            case measure => simp [intOf]; omega
          have hd : 1 ≤ d := by omega
          by_cases hm : (z1, z2) ∈ L
          · skip
            go_upto_region 14 with fail
            have HD := Has.new wr #[.int .i64 z0, .int .i64 z1, .int .i64 z2] 41
            have hfr := GripAt.fresh G (Nat.le_refl _)
            have hfx := RGripAt.fresh R (Nat.le_refl _)
            have G := G.keeps ((Keeps.refl wr).alloc (.cells #[.int .i64 z0, .int .i64 z1, .int .i64 z2] 41))
            have R := R.keeps ((Keeps.refl wr).alloc (.cells #[.int .i64 z0, .int .i64 z1, .int .i64 z2] 41))
            have K := K.alloc (.cells #[.int .i64 z0, .int .i64 z1, .int .i64 z2] 41)
            obtain ⟨dd, hdd⟩ : ∃ dd, dd = wr.heap.size := ⟨_, rfl⟩
            rw [← hdd] at hfr hfx HD
            rw [← hdd]
            clear hdd
            refine wp_named (fun W0 hW0 => ?_)
            rw [← hW0] at HD G R K
            clear hW0
            have F_ := (HD).facts; simp only [blockFacts, listFacts, cellsAt, Nat.reduceAdd, and_true, true_and, and_assoc] at F_
            go_upto_region 15 with (go_at_call 38; refine (number_c _ _ _ (by omega) (by omega)).mono ?_; rintro e w' ⟨rfl, rfl⟩; rw [HQ.out])
            go_region_held3 (fun q => q.cell? ⟨dd, 1, none⟩ = some (.int .i64 z1) ∧ q.cell? ⟨dd, 2, none⟩ = some (.int .i64 z2)) (refine ⟨Has.cell (show Has _ dd #[.int .i64 z0, .int .i64 z1, .int .i64 z2] 41 from HD.keeps (by (repeat' (first | (with_reducible exact Keeps.refl _) | (with_reducible assumption) | (with_reducible refine Keeps.drewN ?_ _) | (with_reducible refine Keeps.drew ?_) | (with_reducible refine Keeps.alloc ?_ _) | (with_reducible refine Keeps.setCell ?_ ?_ _) | (with_reducible refine Keeps.trans ?_ (After.keeps _)) | (with_reducible refine Keeps.trans ?_ (by with_reducible assumption)) | go_size)))) 1, Has.cell (show Has _ dd #[.int .i64 z0, .int .i64 z1, .int .i64 z2] 41 from HD.keeps (by (repeat' (first | (with_reducible exact Keeps.refl _) | (with_reducible assumption) | (with_reducible refine Keeps.drewN ?_ _) | (with_reducible refine Keeps.drew ?_) | (with_reducible refine Keeps.alloc ?_ _) | (with_reducible refine Keeps.setCell ?_ ?_ _) | (with_reducible refine Keeps.trans ?_ (After.keeps _)) | (with_reducible refine Keeps.trans ?_ (by with_reducible assumption)) | go_size)))) 2⟩) (first
              | (go_at_call 43; refine (ghold_held _ _ _ _ _ _ _ _ (G.keeps (by (repeat' (first | (with_reducible exact Keeps.refl _) | (with_reducible assumption) | (with_reducible refine Keeps.drewN ?_ _) | (with_reducible refine Keeps.drew ?_) | (with_reducible refine Keeps.alloc ?_ _) | (with_reducible refine Keeps.setCell ?_ ?_ _) | (with_reducible refine Keeps.trans ?_ (After.keeps _)) | (with_reducible refine Keeps.trans ?_ (by with_reducible assumption)) | go_size)))) hd hm).mono ?_; rintro e w' ⟨rfl, hk_⟩; have R := (R.keeps (by (repeat' (first | (with_reducible exact Keeps.refl _) | (with_reducible assumption) | (with_reducible refine Keeps.drewN ?_ _) | (with_reducible refine Keeps.drew ?_) | (with_reducible refine Keeps.alloc ?_ _) | (with_reducible refine Keeps.setCell ?_ ?_ _) | (with_reducible refine Keeps.trans ?_ (After.keeps _)) | (with_reducible refine Keeps.trans ?_ (by with_reducible assumption)) | go_size)))).keeps hk_; have K := (Keeps.trans K (by (repeat' (first | (with_reducible exact Keeps.refl _) | (with_reducible assumption) | (with_reducible refine Keeps.drewN ?_ _) | (with_reducible refine Keeps.drew ?_) | (with_reducible refine Keeps.alloc ?_ _) | (with_reducible refine Keeps.setCell ?_ ?_ _) | (with_reducible refine Keeps.trans ?_ (After.keeps _)) | (with_reducible refine Keeps.trans ?_ (by with_reducible assumption)) | go_size)))).trans hk_; have HD := (HD.keeps (by (repeat' (first | (with_reducible exact Keeps.refl _) | (with_reducible assumption) | (with_reducible refine Keeps.drewN ?_ _) | (with_reducible refine Keeps.drew ?_) | (with_reducible refine Keeps.alloc ?_ _) | (with_reducible refine Keeps.setCell ?_ ?_ _) | (with_reducible refine Keeps.trans ?_ (After.keeps _)) | (with_reducible refine Keeps.trans ?_ (by with_reducible assumption)) | go_size)))).keeps hk_; have G := (G.keeps (by (repeat' (first | (with_reducible exact Keeps.refl _) | (with_reducible assumption) | (with_reducible refine Keeps.drewN ?_ _) | (with_reducible refine Keeps.drew ?_) | (with_reducible refine Keeps.alloc ?_ _) | (with_reducible refine Keeps.setCell ?_ ?_ _) | (with_reducible refine Keeps.trans ?_ (After.keeps _)) | (with_reducible refine Keeps.trans ?_ (by with_reducible assumption)) | go_size)))).keeps hk_)
              | (go_at_call 44; refine (rghold_held _ _ _ _ _ _ _ _ (R.keeps (by (repeat' (first | (with_reducible exact Keeps.refl _) | (with_reducible assumption) | (with_reducible refine Keeps.drewN ?_ _) | (with_reducible refine Keeps.drew ?_) | (with_reducible refine Keeps.alloc ?_ _) | (with_reducible refine Keeps.setCell ?_ ?_ _) | (with_reducible refine Keeps.trans ?_ (After.keeps _)) | (with_reducible refine Keeps.trans ?_ (by with_reducible assumption)) | go_size)))) hd hm).mono ?_; rintro e w' ⟨rfl, rfl⟩))
            go_upto_region 28 with fail
            refine wp_named (fun W hW => ?_)
            have G := G.keeps (w' := W) (by rw [hW]; (repeat' (first | (with_reducible exact Keeps.refl _) | (with_reducible assumption) | (with_reducible refine Keeps.drewN ?_ _) | (with_reducible refine Keeps.drew ?_) | (with_reducible refine Keeps.alloc ?_ _) | (with_reducible refine Keeps.setCell ?_ ?_ _) | (with_reducible refine Keeps.trans ?_ (After.keeps _)) | (with_reducible refine Keeps.trans ?_ (by with_reducible assumption)) | go_size)))
            have R := R.keeps (w' := W) (by rw [hW]; (repeat' (first | (with_reducible exact Keeps.refl _) | (with_reducible assumption) | (with_reducible refine Keeps.drewN ?_ _) | (with_reducible refine Keeps.drew ?_) | (with_reducible refine Keeps.alloc ?_ _) | (with_reducible refine Keeps.setCell ?_ ?_ _) | (with_reducible refine Keeps.trans ?_ (After.keeps _)) | (with_reducible refine Keeps.trans ?_ (by with_reducible assumption)) | go_size)))
            have K := Keeps.trans K (show Keeps _ W by rw [hW]; (repeat' (first | (with_reducible exact Keeps.refl _) | (with_reducible assumption) | (with_reducible refine Keeps.drewN ?_ _) | (with_reducible refine Keeps.drew ?_) | (with_reducible refine Keeps.alloc ?_ _) | (with_reducible refine Keeps.setCell ?_ ?_ _) | (with_reducible refine Keeps.trans ?_ (After.keeps _)) | (with_reducible refine Keeps.trans ?_ (by with_reducible assumption)) | go_size)))
            have HD := HD.keeps (w' := W) (by rw [hW]; (repeat' (first | (with_reducible exact Keeps.refl _) | (with_reducible assumption) | (with_reducible refine Keeps.drewN ?_ _) | (with_reducible refine Keeps.drew ?_) | (with_reducible refine Keeps.alloc ?_ _) | (with_reducible refine Keeps.setCell ?_ ?_ _) | (with_reducible refine Keeps.trans ?_ (After.keeps _)) | (with_reducible refine Keeps.trans ?_ (by with_reducible assumption)) | go_size)))
            clear hW
            obtain ⟨ua, ucap, hu', -⟩ := R.row.form
            (try subst hu')
            have hX := fun q => rgrip_cells R q
            have hY := fun q => d3cells HD q
            have hLl := G.len
            (refine wp_region_after_lit (by kernel_rfl) (by kernel_rfl) ?_; (try simp only [List.append_eq, List.cons_append, List.nil_append]); (repeat (first | go_big_quiet_step ((first | (go_at_call 45; exact calls_after_same (gdepth_c _ _ _ _ _ _ (G.keeps (After.keeps _)))) | (go_at_call 46; exact calls_after_same (glen_c _ _ _ _ _ _ (G.keeps (After.keeps _)))) | (go_at_call 47; exact calls_after (gholds_c _ _ _ _ _ _ _ _ (G.keeps (After.keeps _)))) | (go_at_call 48; exact calls_after_same (rgholds_c _ _ _ _ _ _ _ _ (R.keeps (After.keeps _)))))) | ((with_reducible refine wpQuiet_step (fun K hK => ?_)); go_simp; first | (refine hK _ ?_; clear hK K) | (apply Exists.intro; refine ⟨fun _ => ?_, hK _ ?_⟩; (first | (go_at_call 45; exact calls_after_same (gdepth_c _ _ _ _ _ _ (G.keeps (After.keeps _)))) | (go_at_call 46; exact calls_after_same (glen_c _ _ _ _ _ _ (G.keeps (After.keeps _)))) | (go_at_call 47; exact calls_after (gholds_c _ _ _ _ _ _ _ _ (G.keeps (After.keeps _)))) | (go_at_call 48; exact calls_after_same (rgholds_c _ _ _ _ _ _ _ _ (R.keeps (After.keeps _))))); clear hK K) | (refine ⟨.bool false, fun _ => ?_, hK _ ?_⟩; (simp; done); clear hK K) | (refine ⟨.bool true, fun _ => ?_, hK _ ?_⟩; (simp; done); clear hK K)))); refine wpQuiet_nil ?_; intro _ hw'; obtain ⟨uq, hw''⟩ := hw'; subst hw'')
            go_wp2
            go_roundw
            case rel => exact ⟨k + 1, _, _, _, _, by omega, by go_num, G.keeps uq.keeps, R.keeps uq.keeps, K.trans uq.keeps, by omega, by omega, hL⟩
            case measure => simp [intOf]; omega
          by_cases h8 : L.length = 8
          · skip
            go_upto_region 14 with fail
            have HD := Has.new wr #[.int .i64 z0, .int .i64 z1, .int .i64 z2] 41
            have hfr := GripAt.fresh G (Nat.le_refl _)
            have hfx := RGripAt.fresh R (Nat.le_refl _)
            have G := G.keeps ((Keeps.refl wr).alloc (.cells #[.int .i64 z0, .int .i64 z1, .int .i64 z2] 41))
            have R := R.keeps ((Keeps.refl wr).alloc (.cells #[.int .i64 z0, .int .i64 z1, .int .i64 z2] 41))
            have K := K.alloc (.cells #[.int .i64 z0, .int .i64 z1, .int .i64 z2] 41)
            obtain ⟨dd, hdd⟩ : ∃ dd, dd = wr.heap.size := ⟨_, rfl⟩
            rw [← hdd] at hfr hfx HD
            rw [← hdd]
            clear hdd
            refine wp_named (fun W0 hW0 => ?_)
            rw [← hW0] at HD G R K
            clear hW0
            have F_ := (HD).facts; simp only [blockFacts, listFacts, cellsAt, Nat.reduceAdd, and_true, true_and, and_assoc] at F_
            go_upto_region 15 with (go_at_call 38; refine (number_c _ _ _ (by omega) (by omega)).mono ?_; rintro e w' ⟨rfl, rfl⟩; rw [HQ.out])
            go_region_held3 (fun q => q.cell? ⟨dd, 1, none⟩ = some (.int .i64 z1) ∧ q.cell? ⟨dd, 2, none⟩ = some (.int .i64 z2)) (refine ⟨Has.cell (show Has _ dd #[.int .i64 z0, .int .i64 z1, .int .i64 z2] 41 from HD.keeps (by (repeat' (first | (with_reducible exact Keeps.refl _) | (with_reducible assumption) | (with_reducible refine Keeps.drewN ?_ _) | (with_reducible refine Keeps.drew ?_) | (with_reducible refine Keeps.alloc ?_ _) | (with_reducible refine Keeps.setCell ?_ ?_ _) | (with_reducible refine Keeps.trans ?_ (After.keeps _)) | (with_reducible refine Keeps.trans ?_ (by with_reducible assumption)) | go_size)))) 1, Has.cell (show Has _ dd #[.int .i64 z0, .int .i64 z1, .int .i64 z2] 41 from HD.keeps (by (repeat' (first | (with_reducible exact Keeps.refl _) | (with_reducible assumption) | (with_reducible refine Keeps.drewN ?_ _) | (with_reducible refine Keeps.drew ?_) | (with_reducible refine Keeps.alloc ?_ _) | (with_reducible refine Keeps.setCell ?_ ?_ _) | (with_reducible refine Keeps.trans ?_ (After.keeps _)) | (with_reducible refine Keeps.trans ?_ (by with_reducible assumption)) | go_size)))) 2⟩) (first
              | (go_at_call 43; refine (ghold_full _ _ _ _ _ _ _ _ (G.keeps (by (repeat' (first | (with_reducible exact Keeps.refl _) | (with_reducible assumption) | (with_reducible refine Keeps.drewN ?_ _) | (with_reducible refine Keeps.drew ?_) | (with_reducible refine Keeps.alloc ?_ _) | (with_reducible refine Keeps.setCell ?_ ?_ _) | (with_reducible refine Keeps.trans ?_ (After.keeps _)) | (with_reducible refine Keeps.trans ?_ (by with_reducible assumption)) | go_size)))) hd hm h8).mono ?_; rintro e w' ⟨rfl, hk_⟩; have R := (R.keeps (by (repeat' (first | (with_reducible exact Keeps.refl _) | (with_reducible assumption) | (with_reducible refine Keeps.drewN ?_ _) | (with_reducible refine Keeps.drew ?_) | (with_reducible refine Keeps.alloc ?_ _) | (with_reducible refine Keeps.setCell ?_ ?_ _) | (with_reducible refine Keeps.trans ?_ (After.keeps _)) | (with_reducible refine Keeps.trans ?_ (by with_reducible assumption)) | go_size)))).keeps hk_; have K := (Keeps.trans K (by (repeat' (first | (with_reducible exact Keeps.refl _) | (with_reducible assumption) | (with_reducible refine Keeps.drewN ?_ _) | (with_reducible refine Keeps.drew ?_) | (with_reducible refine Keeps.alloc ?_ _) | (with_reducible refine Keeps.setCell ?_ ?_ _) | (with_reducible refine Keeps.trans ?_ (After.keeps _)) | (with_reducible refine Keeps.trans ?_ (by with_reducible assumption)) | go_size)))).trans hk_; have HD := (HD.keeps (by (repeat' (first | (with_reducible exact Keeps.refl _) | (with_reducible assumption) | (with_reducible refine Keeps.drewN ?_ _) | (with_reducible refine Keeps.drew ?_) | (with_reducible refine Keeps.alloc ?_ _) | (with_reducible refine Keeps.setCell ?_ ?_ _) | (with_reducible refine Keeps.trans ?_ (After.keeps _)) | (with_reducible refine Keeps.trans ?_ (by with_reducible assumption)) | go_size)))).keeps hk_; have G := (G.keeps (by (repeat' (first | (with_reducible exact Keeps.refl _) | (with_reducible assumption) | (with_reducible refine Keeps.drewN ?_ _) | (with_reducible refine Keeps.drew ?_) | (with_reducible refine Keeps.alloc ?_ _) | (with_reducible refine Keeps.setCell ?_ ?_ _) | (with_reducible refine Keeps.trans ?_ (After.keeps _)) | (with_reducible refine Keeps.trans ?_ (by with_reducible assumption)) | go_size)))).keeps hk_)
              | (go_at_call 44; refine (rghold_full _ _ _ _ _ _ _ _ (R.keeps (by (repeat' (first | (with_reducible exact Keeps.refl _) | (with_reducible assumption) | (with_reducible refine Keeps.drewN ?_ _) | (with_reducible refine Keeps.drew ?_) | (with_reducible refine Keeps.alloc ?_ _) | (with_reducible refine Keeps.setCell ?_ ?_ _) | (with_reducible refine Keeps.trans ?_ (After.keeps _)) | (with_reducible refine Keeps.trans ?_ (by with_reducible assumption)) | go_size)))) hd hm h8).mono ?_; rintro e w' ⟨rfl, rfl⟩))
            go_upto_region 28 with fail
            refine wp_named (fun W hW => ?_)
            have G := G.keeps (w' := W) (by rw [hW]; (repeat' (first | (with_reducible exact Keeps.refl _) | (with_reducible assumption) | (with_reducible refine Keeps.drewN ?_ _) | (with_reducible refine Keeps.drew ?_) | (with_reducible refine Keeps.alloc ?_ _) | (with_reducible refine Keeps.setCell ?_ ?_ _) | (with_reducible refine Keeps.trans ?_ (After.keeps _)) | (with_reducible refine Keeps.trans ?_ (by with_reducible assumption)) | go_size)))
            have R := R.keeps (w' := W) (by rw [hW]; (repeat' (first | (with_reducible exact Keeps.refl _) | (with_reducible assumption) | (with_reducible refine Keeps.drewN ?_ _) | (with_reducible refine Keeps.drew ?_) | (with_reducible refine Keeps.alloc ?_ _) | (with_reducible refine Keeps.setCell ?_ ?_ _) | (with_reducible refine Keeps.trans ?_ (After.keeps _)) | (with_reducible refine Keeps.trans ?_ (by with_reducible assumption)) | go_size)))
            have K := Keeps.trans K (show Keeps _ W by rw [hW]; (repeat' (first | (with_reducible exact Keeps.refl _) | (with_reducible assumption) | (with_reducible refine Keeps.drewN ?_ _) | (with_reducible refine Keeps.drew ?_) | (with_reducible refine Keeps.alloc ?_ _) | (with_reducible refine Keeps.setCell ?_ ?_ _) | (with_reducible refine Keeps.trans ?_ (After.keeps _)) | (with_reducible refine Keeps.trans ?_ (by with_reducible assumption)) | go_size)))
            have HD := HD.keeps (w' := W) (by rw [hW]; (repeat' (first | (with_reducible exact Keeps.refl _) | (with_reducible assumption) | (with_reducible refine Keeps.drewN ?_ _) | (with_reducible refine Keeps.drew ?_) | (with_reducible refine Keeps.alloc ?_ _) | (with_reducible refine Keeps.setCell ?_ ?_ _) | (with_reducible refine Keeps.trans ?_ (After.keeps _)) | (with_reducible refine Keeps.trans ?_ (by with_reducible assumption)) | go_size)))
            clear hW
            obtain ⟨ua, ucap, hu', -⟩ := R.row.form
            (try subst hu')
            have hX := fun q => rgrip_cells R q
            have hY := fun q => d3cells HD q
            have hLl := G.len
            (refine wp_region_after_lit (by kernel_rfl) (by kernel_rfl) ?_; (try simp only [List.append_eq, List.cons_append, List.nil_append]); (repeat (first | go_big_quiet_step ((first | (go_at_call 45; exact calls_after_same (gdepth_c _ _ _ _ _ _ (G.keeps (After.keeps _)))) | (go_at_call 46; exact calls_after_same (glen_c _ _ _ _ _ _ (G.keeps (After.keeps _)))) | (go_at_call 47; exact calls_after (gholds_c _ _ _ _ _ _ _ _ (G.keeps (After.keeps _)))) | (go_at_call 48; exact calls_after_same (rgholds_c _ _ _ _ _ _ _ _ (R.keeps (After.keeps _)))))) | ((with_reducible refine wpQuiet_step (fun K hK => ?_)); go_simp; first | (refine hK _ ?_; clear hK K) | (apply Exists.intro; refine ⟨fun _ => ?_, hK _ ?_⟩; (first | (go_at_call 45; exact calls_after_same (gdepth_c _ _ _ _ _ _ (G.keeps (After.keeps _)))) | (go_at_call 46; exact calls_after_same (glen_c _ _ _ _ _ _ (G.keeps (After.keeps _)))) | (go_at_call 47; exact calls_after (gholds_c _ _ _ _ _ _ _ _ (G.keeps (After.keeps _)))) | (go_at_call 48; exact calls_after_same (rgholds_c _ _ _ _ _ _ _ _ (R.keeps (After.keeps _))))); clear hK K) | (refine ⟨.bool false, fun _ => ?_, hK _ ?_⟩; (simp; done); clear hK K) | (refine ⟨.bool true, fun _ => ?_, hK _ ?_⟩; (simp; done); clear hK K)))); refine wpQuiet_nil ?_; intro _ hw'; obtain ⟨uq, hw''⟩ := hw'; subst hw'')
            go_wp2
            go_roundw
            case rel => exact ⟨k + 1, _, _, _, _, by omega, by go_num, G.keeps uq.keeps, R.keeps uq.keeps, K.trans uq.keeps, by omega, by omega, hL⟩
            case measure => simp [intOf]; omega
          have h8 : L.length < 8 := by omega
          go_upto_region 14 with fail
          have HD := Has.new wr #[.int .i64 z0, .int .i64 z1, .int .i64 z2] 41
          have hfr := GripAt.fresh G (Nat.le_refl _)
          have hfx := RGripAt.fresh R (Nat.le_refl _)
          have G := G.keeps ((Keeps.refl wr).alloc (.cells #[.int .i64 z0, .int .i64 z1, .int .i64 z2] 41))
          have R := R.keeps ((Keeps.refl wr).alloc (.cells #[.int .i64 z0, .int .i64 z1, .int .i64 z2] 41))
          have K := K.alloc (.cells #[.int .i64 z0, .int .i64 z1, .int .i64 z2] 41)
          obtain ⟨dd, hdd⟩ : ∃ dd, dd = wr.heap.size := ⟨_, rfl⟩
          rw [← hdd] at hfr hfx HD
          rw [← hdd]
          clear hdd
          refine wp_named (fun W0 hW0 => ?_)
          rw [← hW0] at HD G R K
          clear hW0
          have F_ := (HD).facts; simp only [blockFacts, listFacts, cellsAt, Nat.reduceAdd, and_true, true_and, and_assoc] at F_
          go_upto_region 15 with (go_at_call 38; refine (number_c _ _ _ (by omega) (by omega)).mono ?_; rintro e w' ⟨rfl, rfl⟩; rw [HQ.out])
          go_region_held3 (fun q => q.cell? ⟨dd, 1, none⟩ = some (.int .i64 z1) ∧ q.cell? ⟨dd, 2, none⟩ = some (.int .i64 z2)) (refine ⟨Has.cell (show Has _ dd #[.int .i64 z0, .int .i64 z1, .int .i64 z2] 41 from HD.keeps (by (repeat' (first | (with_reducible exact Keeps.refl _) | (with_reducible assumption) | (with_reducible refine Keeps.drewN ?_ _) | (with_reducible refine Keeps.drew ?_) | (with_reducible refine Keeps.alloc ?_ _) | (with_reducible refine Keeps.setCell ?_ ?_ _) | (with_reducible refine Keeps.trans ?_ (After.keeps _)) | (with_reducible refine Keeps.trans ?_ (by with_reducible assumption)) | go_size)))) 1, Has.cell (show Has _ dd #[.int .i64 z0, .int .i64 z1, .int .i64 z2] 41 from HD.keeps (by (repeat' (first | (with_reducible exact Keeps.refl _) | (with_reducible assumption) | (with_reducible refine Keeps.drewN ?_ _) | (with_reducible refine Keeps.drew ?_) | (with_reducible refine Keeps.alloc ?_ _) | (with_reducible refine Keeps.setCell ?_ ?_ _) | (with_reducible refine Keeps.trans ?_ (After.keeps _)) | (with_reducible refine Keeps.trans ?_ (by with_reducible assumption)) | go_size)))) 2⟩) (first
            | (go_at_call 43; refine (ghold_new _ _ _ _ _ _ _ _ (G.keeps (by (repeat' (first | (with_reducible exact Keeps.refl _) | (with_reducible assumption) | (with_reducible refine Keeps.drewN ?_ _) | (with_reducible refine Keeps.drew ?_) | (with_reducible refine Keeps.alloc ?_ _) | (with_reducible refine Keeps.setCell ?_ ?_ _) | (with_reducible refine Keeps.trans ?_ (After.keeps _)) | (with_reducible refine Keeps.trans ?_ (by with_reducible assumption)) | go_size)))) hd hm h8).mono ?_; rintro e w' ⟨v1, rfl, hu, G1⟩; have R := RGripAt.past2 (R.keeps (by (repeat' (first | (with_reducible exact Keeps.refl _) | (with_reducible assumption) | (with_reducible refine Keeps.drewN ?_ _) | (with_reducible refine Keeps.drew ?_) | (with_reducible refine Keeps.alloc ?_ _) | (with_reducible refine Keeps.setCell ?_ ?_ _) | (with_reducible refine Keeps.trans ?_ (After.keeps _)) | (with_reducible refine Keeps.trans ?_ (by with_reducible assumption)) | go_size)))) (G.keeps (by (repeat' (first | (with_reducible exact Keeps.refl _) | (with_reducible assumption) | (with_reducible refine Keeps.drewN ?_ _) | (with_reducible refine Keeps.drew ?_) | (with_reducible refine Keeps.alloc ?_ _) | (with_reducible refine Keeps.setCell ?_ ?_ _) | (with_reducible refine Keeps.trans ?_ (After.keeps _)) | (with_reducible refine Keeps.trans ?_ (by with_reducible assumption)) | go_size)))) hu; have K := GripAt.k2 (Keeps.trans K (by (repeat' (first | (with_reducible exact Keeps.refl _) | (with_reducible assumption) | (with_reducible refine Keeps.drewN ?_ _) | (with_reducible refine Keeps.drew ?_) | (with_reducible refine Keeps.alloc ?_ _) | (with_reducible refine Keeps.setCell ?_ ?_ _) | (with_reducible refine Keeps.trans ?_ (After.keeps _)) | (with_reducible refine Keeps.trans ?_ (by with_reducible assumption)) | go_size)))) (G.keeps (by (repeat' (first | (with_reducible exact Keeps.refl _) | (with_reducible assumption) | (with_reducible refine Keeps.drewN ?_ _) | (with_reducible refine Keeps.drew ?_) | (with_reducible refine Keeps.alloc ?_ _) | (with_reducible refine Keeps.setCell ?_ ?_ _) | (with_reducible refine Keeps.trans ?_ (After.keeps _)) | (with_reducible refine Keeps.trans ?_ (by with_reducible assumption)) | go_size)))) hu; have HD := (HD.keeps (by (repeat' (first | (with_reducible exact Keeps.refl _) | (with_reducible assumption) | (with_reducible refine Keeps.drewN ?_ _) | (with_reducible refine Keeps.drew ?_) | (with_reducible refine Keeps.alloc ?_ _) | (with_reducible refine Keeps.setCell ?_ ?_ _) | (with_reducible refine Keeps.trans ?_ (After.keeps _)) | (with_reducible refine Keeps.trans ?_ (by with_reducible assumption)) | go_size)))).upd hu hfr; have G := G1)
            | (go_at_call 44; refine (rghold_new _ _ _ _ _ _ _ _ (R.keeps (by (repeat' (first | (with_reducible exact Keeps.refl _) | (with_reducible assumption) | (with_reducible refine Keeps.drewN ?_ _) | (with_reducible refine Keeps.drew ?_) | (with_reducible refine Keeps.alloc ?_ _) | (with_reducible refine Keeps.setCell ?_ ?_ _) | (with_reducible refine Keeps.trans ?_ (After.keeps _)) | (with_reducible refine Keeps.trans ?_ (by with_reducible assumption)) | go_size)))) hd hm h8).mono ?_; rintro e w' ⟨u1, rfl, hv, R1⟩; have G := GripAt.past (G.keeps (by (repeat' (first | (with_reducible exact Keeps.refl _) | (with_reducible assumption) | (with_reducible refine Keeps.drewN ?_ _) | (with_reducible refine Keeps.drew ?_) | (with_reducible refine Keeps.alloc ?_ _) | (with_reducible refine Keeps.setCell ?_ ?_ _) | (with_reducible refine Keeps.trans ?_ (After.keeps _)) | (with_reducible refine Keeps.trans ?_ (by with_reducible assumption)) | go_size)))) (R.keeps (by (repeat' (first | (with_reducible exact Keeps.refl _) | (with_reducible assumption) | (with_reducible refine Keeps.drewN ?_ _) | (with_reducible refine Keeps.drew ?_) | (with_reducible refine Keeps.alloc ?_ _) | (with_reducible refine Keeps.setCell ?_ ?_ _) | (with_reducible refine Keeps.trans ?_ (After.keeps _)) | (with_reducible refine Keeps.trans ?_ (by with_reducible assumption)) | go_size)))) hv; have K := RGripAt.k1 (Keeps.trans K (by (repeat' (first | (with_reducible exact Keeps.refl _) | (with_reducible assumption) | (with_reducible refine Keeps.drewN ?_ _) | (with_reducible refine Keeps.drew ?_) | (with_reducible refine Keeps.alloc ?_ _) | (with_reducible refine Keeps.setCell ?_ ?_ _) | (with_reducible refine Keeps.trans ?_ (After.keeps _)) | (with_reducible refine Keeps.trans ?_ (by with_reducible assumption)) | go_size)))) (R.keeps (by (repeat' (first | (with_reducible exact Keeps.refl _) | (with_reducible assumption) | (with_reducible refine Keeps.drewN ?_ _) | (with_reducible refine Keeps.drew ?_) | (with_reducible refine Keeps.alloc ?_ _) | (with_reducible refine Keeps.setCell ?_ ?_ _) | (with_reducible refine Keeps.trans ?_ (After.keeps _)) | (with_reducible refine Keeps.trans ?_ (by with_reducible assumption)) | go_size)))) hv; have HD := (HD.keeps (by (repeat' (first | (with_reducible exact Keeps.refl _) | (with_reducible assumption) | (with_reducible refine Keeps.drewN ?_ _) | (with_reducible refine Keeps.drew ?_) | (with_reducible refine Keeps.alloc ?_ _) | (with_reducible refine Keeps.setCell ?_ ?_ _) | (with_reducible refine Keeps.trans ?_ (After.keeps _)) | (with_reducible refine Keeps.trans ?_ (by with_reducible assumption)) | go_size)))).upd hv (by simp; exact hfx); have R := R1))
          go_upto_region 28 with fail
          refine wp_named (fun W hW => ?_)
          have G := G.keeps (w' := W) (by rw [hW]; (repeat' (first | (with_reducible exact Keeps.refl _) | (with_reducible assumption) | (with_reducible refine Keeps.drewN ?_ _) | (with_reducible refine Keeps.drew ?_) | (with_reducible refine Keeps.alloc ?_ _) | (with_reducible refine Keeps.setCell ?_ ?_ _) | (with_reducible refine Keeps.trans ?_ (After.keeps _)) | (with_reducible refine Keeps.trans ?_ (by with_reducible assumption)) | go_size)))
          have R := R.keeps (w' := W) (by rw [hW]; (repeat' (first | (with_reducible exact Keeps.refl _) | (with_reducible assumption) | (with_reducible refine Keeps.drewN ?_ _) | (with_reducible refine Keeps.drew ?_) | (with_reducible refine Keeps.alloc ?_ _) | (with_reducible refine Keeps.setCell ?_ ?_ _) | (with_reducible refine Keeps.trans ?_ (After.keeps _)) | (with_reducible refine Keeps.trans ?_ (by with_reducible assumption)) | go_size)))
          have K := Keeps.trans K (show Keeps _ W by rw [hW]; (repeat' (first | (with_reducible exact Keeps.refl _) | (with_reducible assumption) | (with_reducible refine Keeps.drewN ?_ _) | (with_reducible refine Keeps.drew ?_) | (with_reducible refine Keeps.alloc ?_ _) | (with_reducible refine Keeps.setCell ?_ ?_ _) | (with_reducible refine Keeps.trans ?_ (After.keeps _)) | (with_reducible refine Keeps.trans ?_ (by with_reducible assumption)) | go_size)))
          have HD := HD.keeps (w' := W) (by rw [hW]; (repeat' (first | (with_reducible exact Keeps.refl _) | (with_reducible assumption) | (with_reducible refine Keeps.drewN ?_ _) | (with_reducible refine Keeps.drew ?_) | (with_reducible refine Keeps.alloc ?_ _) | (with_reducible refine Keeps.setCell ?_ ?_ _) | (with_reducible refine Keeps.trans ?_ (After.keeps _)) | (with_reducible refine Keeps.trans ?_ (by with_reducible assumption)) | go_size)))
          clear hW
          obtain ⟨ua, ucap, hu', -⟩ := R.row.form
          (try subst hu')
          have hX := fun q => rgrip_cells R q
          have hY := fun q => d3cells HD q
          have hLl := G.len
          (refine wp_region_after_lit (by kernel_rfl) (by kernel_rfl) ?_; (try simp only [List.append_eq, List.cons_append, List.nil_append]); (repeat (first | go_big_quiet_step ((first | (go_at_call 45; exact calls_after_same (gdepth_c _ _ _ _ _ _ (G.keeps (After.keeps _)))) | (go_at_call 46; exact calls_after_same (glen_c _ _ _ _ _ _ (G.keeps (After.keeps _)))) | (go_at_call 47; exact calls_after (gholds_c _ _ _ _ _ _ _ _ (G.keeps (After.keeps _)))) | (go_at_call 48; exact calls_after_same (rgholds_c _ _ _ _ _ _ _ _ (R.keeps (After.keeps _)))))) | ((with_reducible refine wpQuiet_step (fun K hK => ?_)); go_simp; first | (refine hK _ ?_; clear hK K) | (apply Exists.intro; refine ⟨fun _ => ?_, hK _ ?_⟩; (first | (go_at_call 45; exact calls_after_same (gdepth_c _ _ _ _ _ _ (G.keeps (After.keeps _)))) | (go_at_call 46; exact calls_after_same (glen_c _ _ _ _ _ _ (G.keeps (After.keeps _)))) | (go_at_call 47; exact calls_after (gholds_c _ _ _ _ _ _ _ _ (G.keeps (After.keeps _)))) | (go_at_call 48; exact calls_after_same (rgholds_c _ _ _ _ _ _ _ _ (R.keeps (After.keeps _))))); clear hK K) | (refine ⟨.bool false, fun _ => ?_, hK _ ?_⟩; (simp; done); clear hK K) | (refine ⟨.bool true, fun _ => ?_, hK _ ?_⟩; (simp; done); clear hK K)))); refine wpQuiet_nil ?_; intro _ hw'; obtain ⟨uq, hw''⟩ := hw'; subst hw'')
          go_wp2
          go_roundw
          case rel => exact ⟨k + 1, _, _, _, _, by omega, by go_num, G.keeps uq.keeps, R.keeps uq.keeps, K.trans uq.keeps, by omega, by omega, by simp; omega⟩
          case measure => simp [intOf]; omega
        · by_cases h0 : d = 0
          · subst h0
            go_upto_region 14 with fail
            have HD := Has.new wr #[.int .i64 z0, .int .i64 z1, .int .i64 z2] 41
            have hfr := GripAt.fresh G (Nat.le_refl _)
            have hfx := RGripAt.fresh R (Nat.le_refl _)
            have G := G.keeps ((Keeps.refl wr).alloc (.cells #[.int .i64 z0, .int .i64 z1, .int .i64 z2] 41))
            have R := R.keeps ((Keeps.refl wr).alloc (.cells #[.int .i64 z0, .int .i64 z1, .int .i64 z2] 41))
            have K := K.alloc (.cells #[.int .i64 z0, .int .i64 z1, .int .i64 z2] 41)
            obtain ⟨dd, hdd⟩ : ∃ dd, dd = wr.heap.size := ⟨_, rfl⟩
            rw [← hdd] at hfr hfx HD
            rw [← hdd]
            clear hdd
            refine wp_named (fun W0 hW0 => ?_)
            rw [← hW0] at HD G R K
            clear hW0
            have F_ := (HD).facts; simp only [blockFacts, listFacts, cellsAt, Nat.reduceAdd, and_true, true_and, and_assoc] at F_
            go_upto_region 15 with (go_at_call 38; refine (number_c _ _ _ (by omega) (by omega)).mono ?_; rintro e w' ⟨rfl, rfl⟩; rw [HQ.out])
            go_region_held3 (fun q => q.cell? ⟨dd, 1, none⟩ = some (.int .i64 z1) ∧ q.cell? ⟨dd, 2, none⟩ = some (.int .i64 z2)) (refine ⟨Has.cell (show Has _ dd #[.int .i64 z0, .int .i64 z1, .int .i64 z2] 41 from HD.keeps (by (repeat' (first | (with_reducible exact Keeps.refl _) | (with_reducible assumption) | (with_reducible refine Keeps.drewN ?_ _) | (with_reducible refine Keeps.drew ?_) | (with_reducible refine Keeps.alloc ?_ _) | (with_reducible refine Keeps.setCell ?_ ?_ _) | (with_reducible refine Keeps.trans ?_ (After.keeps _)) | (with_reducible refine Keeps.trans ?_ (by with_reducible assumption)) | go_size)))) 1, Has.cell (show Has _ dd #[.int .i64 z0, .int .i64 z1, .int .i64 z2] 41 from HD.keeps (by (repeat' (first | (with_reducible exact Keeps.refl _) | (with_reducible assumption) | (with_reducible refine Keeps.drewN ?_ _) | (with_reducible refine Keeps.drew ?_) | (with_reducible refine Keeps.alloc ?_ _) | (with_reducible refine Keeps.setCell ?_ ?_ _) | (with_reducible refine Keeps.trans ?_ (After.keeps _)) | (with_reducible refine Keeps.trans ?_ (by with_reducible assumption)) | go_size)))) 2⟩) (first
              | (go_at_call 43; refine (ghold_unpinned _ _ _ _ _ _ _ (G.keeps (by (repeat' (first | (with_reducible exact Keeps.refl _) | (with_reducible assumption) | (with_reducible refine Keeps.drewN ?_ _) | (with_reducible refine Keeps.drew ?_) | (with_reducible refine Keeps.alloc ?_ _) | (with_reducible refine Keeps.setCell ?_ ?_ _) | (with_reducible refine Keeps.trans ?_ (After.keeps _)) | (with_reducible refine Keeps.trans ?_ (by with_reducible assumption)) | go_size))))).mono ?_; rintro e w' ⟨rfl, rfl⟩)
              | (go_at_call 44; refine (rghold_unpinned _ _ _ _ _ _ _ (R.keeps (by (repeat' (first | (with_reducible exact Keeps.refl _) | (with_reducible assumption) | (with_reducible refine Keeps.drewN ?_ _) | (with_reducible refine Keeps.drew ?_) | (with_reducible refine Keeps.alloc ?_ _) | (with_reducible refine Keeps.setCell ?_ ?_ _) | (with_reducible refine Keeps.trans ?_ (After.keeps _)) | (with_reducible refine Keeps.trans ?_ (by with_reducible assumption)) | go_size))))).mono ?_; rintro e w' ⟨rfl, rfl⟩))
            go_upto_region 28 with fail
            refine wp_named (fun W hW => ?_)
            have G := G.keeps (w' := W) (by rw [hW]; (repeat' (first | (with_reducible exact Keeps.refl _) | (with_reducible assumption) | (with_reducible refine Keeps.drewN ?_ _) | (with_reducible refine Keeps.drew ?_) | (with_reducible refine Keeps.alloc ?_ _) | (with_reducible refine Keeps.setCell ?_ ?_ _) | (with_reducible refine Keeps.trans ?_ (After.keeps _)) | (with_reducible refine Keeps.trans ?_ (by with_reducible assumption)) | go_size)))
            have R := R.keeps (w' := W) (by rw [hW]; (repeat' (first | (with_reducible exact Keeps.refl _) | (with_reducible assumption) | (with_reducible refine Keeps.drewN ?_ _) | (with_reducible refine Keeps.drew ?_) | (with_reducible refine Keeps.alloc ?_ _) | (with_reducible refine Keeps.setCell ?_ ?_ _) | (with_reducible refine Keeps.trans ?_ (After.keeps _)) | (with_reducible refine Keeps.trans ?_ (by with_reducible assumption)) | go_size)))
            have K := Keeps.trans K (show Keeps _ W by rw [hW]; (repeat' (first | (with_reducible exact Keeps.refl _) | (with_reducible assumption) | (with_reducible refine Keeps.drewN ?_ _) | (with_reducible refine Keeps.drew ?_) | (with_reducible refine Keeps.alloc ?_ _) | (with_reducible refine Keeps.setCell ?_ ?_ _) | (with_reducible refine Keeps.trans ?_ (After.keeps _)) | (with_reducible refine Keeps.trans ?_ (by with_reducible assumption)) | go_size)))
            have HD := HD.keeps (w' := W) (by rw [hW]; (repeat' (first | (with_reducible exact Keeps.refl _) | (with_reducible assumption) | (with_reducible refine Keeps.drewN ?_ _) | (with_reducible refine Keeps.drew ?_) | (with_reducible refine Keeps.alloc ?_ _) | (with_reducible refine Keeps.setCell ?_ ?_ _) | (with_reducible refine Keeps.trans ?_ (After.keeps _)) | (with_reducible refine Keeps.trans ?_ (by with_reducible assumption)) | go_size)))
            clear hW
            obtain ⟨ua, ucap, hu', -⟩ := R.row.form
            (try subst hu')
            have hX := fun q => rgrip_cells R q
            have hY := fun q => d3cells HD q
            have hLl := G.len
            (refine wp_region_after_lit (by kernel_rfl) (by kernel_rfl) ?_; (try simp only [List.append_eq, List.cons_append, List.nil_append]); (repeat (first | go_big_quiet_step ((first | (go_at_call 45; exact calls_after_same (gdepth_c _ _ _ _ _ _ (G.keeps (After.keeps _)))) | (go_at_call 46; exact calls_after_same (glen_c _ _ _ _ _ _ (G.keeps (After.keeps _)))) | (go_at_call 47; exact calls_after (gholds_c _ _ _ _ _ _ _ _ (G.keeps (After.keeps _)))) | (go_at_call 48; exact calls_after_same (rgholds_c _ _ _ _ _ _ _ _ (R.keeps (After.keeps _)))))) | ((with_reducible refine wpQuiet_step (fun K hK => ?_)); go_simp; first | (refine hK _ ?_; clear hK K) | (apply Exists.intro; refine ⟨fun _ => ?_, hK _ ?_⟩; (first | (go_at_call 45; exact calls_after_same (gdepth_c _ _ _ _ _ _ (G.keeps (After.keeps _)))) | (go_at_call 46; exact calls_after_same (glen_c _ _ _ _ _ _ (G.keeps (After.keeps _)))) | (go_at_call 47; exact calls_after (gholds_c _ _ _ _ _ _ _ _ (G.keeps (After.keeps _)))) | (go_at_call 48; exact calls_after_same (rgholds_c _ _ _ _ _ _ _ _ (R.keeps (After.keeps _))))); clear hK K) | (refine ⟨.bool false, fun _ => ?_, hK _ ?_⟩; (simp; done); clear hK K) | (refine ⟨.bool true, fun _ => ?_, hK _ ?_⟩; (simp; done); clear hK K)))); refine wpQuiet_nil ?_; intro _ hw'; obtain ⟨uq, hw''⟩ := hw'; subst hw'')
            go_wp2
            go_roundw
            case rel => exact ⟨k + 1, _, _, _, _, by omega, by go_num, G.keeps uq.keeps, R.keeps uq.keeps, K.trans uq.keeps, by omega, by omega, hL⟩
            case measure => simp [intOf]; omega
          have hd : 1 ≤ d := by omega
          by_cases hm : (z1, z2) ∈ L
          · skip
            go_upto_region 14 with fail
            have HD := Has.new wr #[.int .i64 z0, .int .i64 z1, .int .i64 z2] 41
            have hfr := GripAt.fresh G (Nat.le_refl _)
            have hfx := RGripAt.fresh R (Nat.le_refl _)
            have G := G.keeps ((Keeps.refl wr).alloc (.cells #[.int .i64 z0, .int .i64 z1, .int .i64 z2] 41))
            have R := R.keeps ((Keeps.refl wr).alloc (.cells #[.int .i64 z0, .int .i64 z1, .int .i64 z2] 41))
            have K := K.alloc (.cells #[.int .i64 z0, .int .i64 z1, .int .i64 z2] 41)
            obtain ⟨dd, hdd⟩ : ∃ dd, dd = wr.heap.size := ⟨_, rfl⟩
            rw [← hdd] at hfr hfx HD
            rw [← hdd]
            clear hdd
            refine wp_named (fun W0 hW0 => ?_)
            rw [← hW0] at HD G R K
            clear hW0
            have F_ := (HD).facts; simp only [blockFacts, listFacts, cellsAt, Nat.reduceAdd, and_true, true_and, and_assoc] at F_
            go_upto_region 15 with (go_at_call 38; refine (number_c _ _ _ (by omega) (by omega)).mono ?_; rintro e w' ⟨rfl, rfl⟩; rw [HQ.out])
            go_region_held3 (fun q => q.cell? ⟨dd, 1, none⟩ = some (.int .i64 z1) ∧ q.cell? ⟨dd, 2, none⟩ = some (.int .i64 z2)) (refine ⟨Has.cell (show Has _ dd #[.int .i64 z0, .int .i64 z1, .int .i64 z2] 41 from HD.keeps (by (repeat' (first | (with_reducible exact Keeps.refl _) | (with_reducible assumption) | (with_reducible refine Keeps.drewN ?_ _) | (with_reducible refine Keeps.drew ?_) | (with_reducible refine Keeps.alloc ?_ _) | (with_reducible refine Keeps.setCell ?_ ?_ _) | (with_reducible refine Keeps.trans ?_ (After.keeps _)) | (with_reducible refine Keeps.trans ?_ (by with_reducible assumption)) | go_size)))) 1, Has.cell (show Has _ dd #[.int .i64 z0, .int .i64 z1, .int .i64 z2] 41 from HD.keeps (by (repeat' (first | (with_reducible exact Keeps.refl _) | (with_reducible assumption) | (with_reducible refine Keeps.drewN ?_ _) | (with_reducible refine Keeps.drew ?_) | (with_reducible refine Keeps.alloc ?_ _) | (with_reducible refine Keeps.setCell ?_ ?_ _) | (with_reducible refine Keeps.trans ?_ (After.keeps _)) | (with_reducible refine Keeps.trans ?_ (by with_reducible assumption)) | go_size)))) 2⟩) (first
              | (go_at_call 43; refine (ghold_held _ _ _ _ _ _ _ _ (G.keeps (by (repeat' (first | (with_reducible exact Keeps.refl _) | (with_reducible assumption) | (with_reducible refine Keeps.drewN ?_ _) | (with_reducible refine Keeps.drew ?_) | (with_reducible refine Keeps.alloc ?_ _) | (with_reducible refine Keeps.setCell ?_ ?_ _) | (with_reducible refine Keeps.trans ?_ (After.keeps _)) | (with_reducible refine Keeps.trans ?_ (by with_reducible assumption)) | go_size)))) hd hm).mono ?_; rintro e w' ⟨rfl, hk_⟩; have R := (R.keeps (by (repeat' (first | (with_reducible exact Keeps.refl _) | (with_reducible assumption) | (with_reducible refine Keeps.drewN ?_ _) | (with_reducible refine Keeps.drew ?_) | (with_reducible refine Keeps.alloc ?_ _) | (with_reducible refine Keeps.setCell ?_ ?_ _) | (with_reducible refine Keeps.trans ?_ (After.keeps _)) | (with_reducible refine Keeps.trans ?_ (by with_reducible assumption)) | go_size)))).keeps hk_; have K := (Keeps.trans K (by (repeat' (first | (with_reducible exact Keeps.refl _) | (with_reducible assumption) | (with_reducible refine Keeps.drewN ?_ _) | (with_reducible refine Keeps.drew ?_) | (with_reducible refine Keeps.alloc ?_ _) | (with_reducible refine Keeps.setCell ?_ ?_ _) | (with_reducible refine Keeps.trans ?_ (After.keeps _)) | (with_reducible refine Keeps.trans ?_ (by with_reducible assumption)) | go_size)))).trans hk_; have HD := (HD.keeps (by (repeat' (first | (with_reducible exact Keeps.refl _) | (with_reducible assumption) | (with_reducible refine Keeps.drewN ?_ _) | (with_reducible refine Keeps.drew ?_) | (with_reducible refine Keeps.alloc ?_ _) | (with_reducible refine Keeps.setCell ?_ ?_ _) | (with_reducible refine Keeps.trans ?_ (After.keeps _)) | (with_reducible refine Keeps.trans ?_ (by with_reducible assumption)) | go_size)))).keeps hk_; have G := (G.keeps (by (repeat' (first | (with_reducible exact Keeps.refl _) | (with_reducible assumption) | (with_reducible refine Keeps.drewN ?_ _) | (with_reducible refine Keeps.drew ?_) | (with_reducible refine Keeps.alloc ?_ _) | (with_reducible refine Keeps.setCell ?_ ?_ _) | (with_reducible refine Keeps.trans ?_ (After.keeps _)) | (with_reducible refine Keeps.trans ?_ (by with_reducible assumption)) | go_size)))).keeps hk_)
              | (go_at_call 44; refine (rghold_held _ _ _ _ _ _ _ _ (R.keeps (by (repeat' (first | (with_reducible exact Keeps.refl _) | (with_reducible assumption) | (with_reducible refine Keeps.drewN ?_ _) | (with_reducible refine Keeps.drew ?_) | (with_reducible refine Keeps.alloc ?_ _) | (with_reducible refine Keeps.setCell ?_ ?_ _) | (with_reducible refine Keeps.trans ?_ (After.keeps _)) | (with_reducible refine Keeps.trans ?_ (by with_reducible assumption)) | go_size)))) hd hm).mono ?_; rintro e w' ⟨rfl, rfl⟩))
            go_upto_region 28 with fail
            refine wp_named (fun W hW => ?_)
            have G := G.keeps (w' := W) (by rw [hW]; (repeat' (first | (with_reducible exact Keeps.refl _) | (with_reducible assumption) | (with_reducible refine Keeps.drewN ?_ _) | (with_reducible refine Keeps.drew ?_) | (with_reducible refine Keeps.alloc ?_ _) | (with_reducible refine Keeps.setCell ?_ ?_ _) | (with_reducible refine Keeps.trans ?_ (After.keeps _)) | (with_reducible refine Keeps.trans ?_ (by with_reducible assumption)) | go_size)))
            have R := R.keeps (w' := W) (by rw [hW]; (repeat' (first | (with_reducible exact Keeps.refl _) | (with_reducible assumption) | (with_reducible refine Keeps.drewN ?_ _) | (with_reducible refine Keeps.drew ?_) | (with_reducible refine Keeps.alloc ?_ _) | (with_reducible refine Keeps.setCell ?_ ?_ _) | (with_reducible refine Keeps.trans ?_ (After.keeps _)) | (with_reducible refine Keeps.trans ?_ (by with_reducible assumption)) | go_size)))
            have K := Keeps.trans K (show Keeps _ W by rw [hW]; (repeat' (first | (with_reducible exact Keeps.refl _) | (with_reducible assumption) | (with_reducible refine Keeps.drewN ?_ _) | (with_reducible refine Keeps.drew ?_) | (with_reducible refine Keeps.alloc ?_ _) | (with_reducible refine Keeps.setCell ?_ ?_ _) | (with_reducible refine Keeps.trans ?_ (After.keeps _)) | (with_reducible refine Keeps.trans ?_ (by with_reducible assumption)) | go_size)))
            have HD := HD.keeps (w' := W) (by rw [hW]; (repeat' (first | (with_reducible exact Keeps.refl _) | (with_reducible assumption) | (with_reducible refine Keeps.drewN ?_ _) | (with_reducible refine Keeps.drew ?_) | (with_reducible refine Keeps.alloc ?_ _) | (with_reducible refine Keeps.setCell ?_ ?_ _) | (with_reducible refine Keeps.trans ?_ (After.keeps _)) | (with_reducible refine Keeps.trans ?_ (by with_reducible assumption)) | go_size)))
            clear hW
            obtain ⟨ua, ucap, hu', -⟩ := R.row.form
            (try subst hu')
            have hX := fun q => rgrip_cells R q
            have hY := fun q => d3cells HD q
            have hLl := G.len
            (refine wp_region_after_lit (by kernel_rfl) (by kernel_rfl) ?_; (try simp only [List.append_eq, List.cons_append, List.nil_append]); (repeat (first | go_big_quiet_step ((first | (go_at_call 45; exact calls_after_same (gdepth_c _ _ _ _ _ _ (G.keeps (After.keeps _)))) | (go_at_call 46; exact calls_after_same (glen_c _ _ _ _ _ _ (G.keeps (After.keeps _)))) | (go_at_call 47; exact calls_after (gholds_c _ _ _ _ _ _ _ _ (G.keeps (After.keeps _)))) | (go_at_call 48; exact calls_after_same (rgholds_c _ _ _ _ _ _ _ _ (R.keeps (After.keeps _)))))) | ((with_reducible refine wpQuiet_step (fun K hK => ?_)); go_simp; first | (refine hK _ ?_; clear hK K) | (apply Exists.intro; refine ⟨fun _ => ?_, hK _ ?_⟩; (first | (go_at_call 45; exact calls_after_same (gdepth_c _ _ _ _ _ _ (G.keeps (After.keeps _)))) | (go_at_call 46; exact calls_after_same (glen_c _ _ _ _ _ _ (G.keeps (After.keeps _)))) | (go_at_call 47; exact calls_after (gholds_c _ _ _ _ _ _ _ _ (G.keeps (After.keeps _)))) | (go_at_call 48; exact calls_after_same (rgholds_c _ _ _ _ _ _ _ _ (R.keeps (After.keeps _))))); clear hK K) | (refine ⟨.bool false, fun _ => ?_, hK _ ?_⟩; (simp; done); clear hK K) | (refine ⟨.bool true, fun _ => ?_, hK _ ?_⟩; (simp; done); clear hK K)))); refine wpQuiet_nil ?_; intro _ hw'; obtain ⟨uq, hw''⟩ := hw'; subst hw'')
            go_wp2
            go_roundw
            case rel => exact ⟨k + 1, _, _, _, _, by omega, by go_num, G.keeps uq.keeps, R.keeps uq.keeps, K.trans uq.keeps, by omega, by omega, hL⟩
            case measure => simp [intOf]; omega
          by_cases h8 : L.length = 8
          · skip
            go_upto_region 14 with fail
            have HD := Has.new wr #[.int .i64 z0, .int .i64 z1, .int .i64 z2] 41
            have hfr := GripAt.fresh G (Nat.le_refl _)
            have hfx := RGripAt.fresh R (Nat.le_refl _)
            have G := G.keeps ((Keeps.refl wr).alloc (.cells #[.int .i64 z0, .int .i64 z1, .int .i64 z2] 41))
            have R := R.keeps ((Keeps.refl wr).alloc (.cells #[.int .i64 z0, .int .i64 z1, .int .i64 z2] 41))
            have K := K.alloc (.cells #[.int .i64 z0, .int .i64 z1, .int .i64 z2] 41)
            obtain ⟨dd, hdd⟩ : ∃ dd, dd = wr.heap.size := ⟨_, rfl⟩
            rw [← hdd] at hfr hfx HD
            rw [← hdd]
            clear hdd
            refine wp_named (fun W0 hW0 => ?_)
            rw [← hW0] at HD G R K
            clear hW0
            have F_ := (HD).facts; simp only [blockFacts, listFacts, cellsAt, Nat.reduceAdd, and_true, true_and, and_assoc] at F_
            go_upto_region 15 with (go_at_call 38; refine (number_c _ _ _ (by omega) (by omega)).mono ?_; rintro e w' ⟨rfl, rfl⟩; rw [HQ.out])
            go_region_held3 (fun q => q.cell? ⟨dd, 1, none⟩ = some (.int .i64 z1) ∧ q.cell? ⟨dd, 2, none⟩ = some (.int .i64 z2)) (refine ⟨Has.cell (show Has _ dd #[.int .i64 z0, .int .i64 z1, .int .i64 z2] 41 from HD.keeps (by (repeat' (first | (with_reducible exact Keeps.refl _) | (with_reducible assumption) | (with_reducible refine Keeps.drewN ?_ _) | (with_reducible refine Keeps.drew ?_) | (with_reducible refine Keeps.alloc ?_ _) | (with_reducible refine Keeps.setCell ?_ ?_ _) | (with_reducible refine Keeps.trans ?_ (After.keeps _)) | (with_reducible refine Keeps.trans ?_ (by with_reducible assumption)) | go_size)))) 1, Has.cell (show Has _ dd #[.int .i64 z0, .int .i64 z1, .int .i64 z2] 41 from HD.keeps (by (repeat' (first | (with_reducible exact Keeps.refl _) | (with_reducible assumption) | (with_reducible refine Keeps.drewN ?_ _) | (with_reducible refine Keeps.drew ?_) | (with_reducible refine Keeps.alloc ?_ _) | (with_reducible refine Keeps.setCell ?_ ?_ _) | (with_reducible refine Keeps.trans ?_ (After.keeps _)) | (with_reducible refine Keeps.trans ?_ (by with_reducible assumption)) | go_size)))) 2⟩) (first
              | (go_at_call 43; refine (ghold_full _ _ _ _ _ _ _ _ (G.keeps (by (repeat' (first | (with_reducible exact Keeps.refl _) | (with_reducible assumption) | (with_reducible refine Keeps.drewN ?_ _) | (with_reducible refine Keeps.drew ?_) | (with_reducible refine Keeps.alloc ?_ _) | (with_reducible refine Keeps.setCell ?_ ?_ _) | (with_reducible refine Keeps.trans ?_ (After.keeps _)) | (with_reducible refine Keeps.trans ?_ (by with_reducible assumption)) | go_size)))) hd hm h8).mono ?_; rintro e w' ⟨rfl, hk_⟩; have R := (R.keeps (by (repeat' (first | (with_reducible exact Keeps.refl _) | (with_reducible assumption) | (with_reducible refine Keeps.drewN ?_ _) | (with_reducible refine Keeps.drew ?_) | (with_reducible refine Keeps.alloc ?_ _) | (with_reducible refine Keeps.setCell ?_ ?_ _) | (with_reducible refine Keeps.trans ?_ (After.keeps _)) | (with_reducible refine Keeps.trans ?_ (by with_reducible assumption)) | go_size)))).keeps hk_; have K := (Keeps.trans K (by (repeat' (first | (with_reducible exact Keeps.refl _) | (with_reducible assumption) | (with_reducible refine Keeps.drewN ?_ _) | (with_reducible refine Keeps.drew ?_) | (with_reducible refine Keeps.alloc ?_ _) | (with_reducible refine Keeps.setCell ?_ ?_ _) | (with_reducible refine Keeps.trans ?_ (After.keeps _)) | (with_reducible refine Keeps.trans ?_ (by with_reducible assumption)) | go_size)))).trans hk_; have HD := (HD.keeps (by (repeat' (first | (with_reducible exact Keeps.refl _) | (with_reducible assumption) | (with_reducible refine Keeps.drewN ?_ _) | (with_reducible refine Keeps.drew ?_) | (with_reducible refine Keeps.alloc ?_ _) | (with_reducible refine Keeps.setCell ?_ ?_ _) | (with_reducible refine Keeps.trans ?_ (After.keeps _)) | (with_reducible refine Keeps.trans ?_ (by with_reducible assumption)) | go_size)))).keeps hk_; have G := (G.keeps (by (repeat' (first | (with_reducible exact Keeps.refl _) | (with_reducible assumption) | (with_reducible refine Keeps.drewN ?_ _) | (with_reducible refine Keeps.drew ?_) | (with_reducible refine Keeps.alloc ?_ _) | (with_reducible refine Keeps.setCell ?_ ?_ _) | (with_reducible refine Keeps.trans ?_ (After.keeps _)) | (with_reducible refine Keeps.trans ?_ (by with_reducible assumption)) | go_size)))).keeps hk_)
              | (go_at_call 44; refine (rghold_full _ _ _ _ _ _ _ _ (R.keeps (by (repeat' (first | (with_reducible exact Keeps.refl _) | (with_reducible assumption) | (with_reducible refine Keeps.drewN ?_ _) | (with_reducible refine Keeps.drew ?_) | (with_reducible refine Keeps.alloc ?_ _) | (with_reducible refine Keeps.setCell ?_ ?_ _) | (with_reducible refine Keeps.trans ?_ (After.keeps _)) | (with_reducible refine Keeps.trans ?_ (by with_reducible assumption)) | go_size)))) hd hm h8).mono ?_; rintro e w' ⟨rfl, rfl⟩))
            go_upto_region 28 with fail
            refine wp_named (fun W hW => ?_)
            have G := G.keeps (w' := W) (by rw [hW]; (repeat' (first | (with_reducible exact Keeps.refl _) | (with_reducible assumption) | (with_reducible refine Keeps.drewN ?_ _) | (with_reducible refine Keeps.drew ?_) | (with_reducible refine Keeps.alloc ?_ _) | (with_reducible refine Keeps.setCell ?_ ?_ _) | (with_reducible refine Keeps.trans ?_ (After.keeps _)) | (with_reducible refine Keeps.trans ?_ (by with_reducible assumption)) | go_size)))
            have R := R.keeps (w' := W) (by rw [hW]; (repeat' (first | (with_reducible exact Keeps.refl _) | (with_reducible assumption) | (with_reducible refine Keeps.drewN ?_ _) | (with_reducible refine Keeps.drew ?_) | (with_reducible refine Keeps.alloc ?_ _) | (with_reducible refine Keeps.setCell ?_ ?_ _) | (with_reducible refine Keeps.trans ?_ (After.keeps _)) | (with_reducible refine Keeps.trans ?_ (by with_reducible assumption)) | go_size)))
            have K := Keeps.trans K (show Keeps _ W by rw [hW]; (repeat' (first | (with_reducible exact Keeps.refl _) | (with_reducible assumption) | (with_reducible refine Keeps.drewN ?_ _) | (with_reducible refine Keeps.drew ?_) | (with_reducible refine Keeps.alloc ?_ _) | (with_reducible refine Keeps.setCell ?_ ?_ _) | (with_reducible refine Keeps.trans ?_ (After.keeps _)) | (with_reducible refine Keeps.trans ?_ (by with_reducible assumption)) | go_size)))
            have HD := HD.keeps (w' := W) (by rw [hW]; (repeat' (first | (with_reducible exact Keeps.refl _) | (with_reducible assumption) | (with_reducible refine Keeps.drewN ?_ _) | (with_reducible refine Keeps.drew ?_) | (with_reducible refine Keeps.alloc ?_ _) | (with_reducible refine Keeps.setCell ?_ ?_ _) | (with_reducible refine Keeps.trans ?_ (After.keeps _)) | (with_reducible refine Keeps.trans ?_ (by with_reducible assumption)) | go_size)))
            clear hW
            obtain ⟨ua, ucap, hu', -⟩ := R.row.form
            (try subst hu')
            have hX := fun q => rgrip_cells R q
            have hY := fun q => d3cells HD q
            have hLl := G.len
            (refine wp_region_after_lit (by kernel_rfl) (by kernel_rfl) ?_; (try simp only [List.append_eq, List.cons_append, List.nil_append]); (repeat (first | go_big_quiet_step ((first | (go_at_call 45; exact calls_after_same (gdepth_c _ _ _ _ _ _ (G.keeps (After.keeps _)))) | (go_at_call 46; exact calls_after_same (glen_c _ _ _ _ _ _ (G.keeps (After.keeps _)))) | (go_at_call 47; exact calls_after (gholds_c _ _ _ _ _ _ _ _ (G.keeps (After.keeps _)))) | (go_at_call 48; exact calls_after_same (rgholds_c _ _ _ _ _ _ _ _ (R.keeps (After.keeps _)))))) | ((with_reducible refine wpQuiet_step (fun K hK => ?_)); go_simp; first | (refine hK _ ?_; clear hK K) | (apply Exists.intro; refine ⟨fun _ => ?_, hK _ ?_⟩; (first | (go_at_call 45; exact calls_after_same (gdepth_c _ _ _ _ _ _ (G.keeps (After.keeps _)))) | (go_at_call 46; exact calls_after_same (glen_c _ _ _ _ _ _ (G.keeps (After.keeps _)))) | (go_at_call 47; exact calls_after (gholds_c _ _ _ _ _ _ _ _ (G.keeps (After.keeps _)))) | (go_at_call 48; exact calls_after_same (rgholds_c _ _ _ _ _ _ _ _ (R.keeps (After.keeps _))))); clear hK K) | (refine ⟨.bool false, fun _ => ?_, hK _ ?_⟩; (simp; done); clear hK K) | (refine ⟨.bool true, fun _ => ?_, hK _ ?_⟩; (simp; done); clear hK K)))); refine wpQuiet_nil ?_; intro _ hw'; obtain ⟨uq, hw''⟩ := hw'; subst hw'')
            go_wp2
            go_roundw
            case rel => exact ⟨k + 1, _, _, _, _, by omega, by go_num, G.keeps uq.keeps, R.keeps uq.keeps, K.trans uq.keeps, by omega, by omega, hL⟩
            case measure => simp [intOf]; omega
          have h8 : L.length < 8 := by omega
          go_upto_region 14 with fail
          have HD := Has.new wr #[.int .i64 z0, .int .i64 z1, .int .i64 z2] 41
          have hfr := GripAt.fresh G (Nat.le_refl _)
          have hfx := RGripAt.fresh R (Nat.le_refl _)
          have G := G.keeps ((Keeps.refl wr).alloc (.cells #[.int .i64 z0, .int .i64 z1, .int .i64 z2] 41))
          have R := R.keeps ((Keeps.refl wr).alloc (.cells #[.int .i64 z0, .int .i64 z1, .int .i64 z2] 41))
          have K := K.alloc (.cells #[.int .i64 z0, .int .i64 z1, .int .i64 z2] 41)
          obtain ⟨dd, hdd⟩ : ∃ dd, dd = wr.heap.size := ⟨_, rfl⟩
          rw [← hdd] at hfr hfx HD
          rw [← hdd]
          clear hdd
          refine wp_named (fun W0 hW0 => ?_)
          rw [← hW0] at HD G R K
          clear hW0
          have F_ := (HD).facts; simp only [blockFacts, listFacts, cellsAt, Nat.reduceAdd, and_true, true_and, and_assoc] at F_
          go_upto_region 15 with (go_at_call 38; refine (number_c _ _ _ (by omega) (by omega)).mono ?_; rintro e w' ⟨rfl, rfl⟩; rw [HQ.out])
          go_region_held3 (fun q => q.cell? ⟨dd, 1, none⟩ = some (.int .i64 z1) ∧ q.cell? ⟨dd, 2, none⟩ = some (.int .i64 z2)) (refine ⟨Has.cell (show Has _ dd #[.int .i64 z0, .int .i64 z1, .int .i64 z2] 41 from HD.keeps (by (repeat' (first | (with_reducible exact Keeps.refl _) | (with_reducible assumption) | (with_reducible refine Keeps.drewN ?_ _) | (with_reducible refine Keeps.drew ?_) | (with_reducible refine Keeps.alloc ?_ _) | (with_reducible refine Keeps.setCell ?_ ?_ _) | (with_reducible refine Keeps.trans ?_ (After.keeps _)) | (with_reducible refine Keeps.trans ?_ (by with_reducible assumption)) | go_size)))) 1, Has.cell (show Has _ dd #[.int .i64 z0, .int .i64 z1, .int .i64 z2] 41 from HD.keeps (by (repeat' (first | (with_reducible exact Keeps.refl _) | (with_reducible assumption) | (with_reducible refine Keeps.drewN ?_ _) | (with_reducible refine Keeps.drew ?_) | (with_reducible refine Keeps.alloc ?_ _) | (with_reducible refine Keeps.setCell ?_ ?_ _) | (with_reducible refine Keeps.trans ?_ (After.keeps _)) | (with_reducible refine Keeps.trans ?_ (by with_reducible assumption)) | go_size)))) 2⟩) (first
            | (go_at_call 43; refine (ghold_new _ _ _ _ _ _ _ _ (G.keeps (by (repeat' (first | (with_reducible exact Keeps.refl _) | (with_reducible assumption) | (with_reducible refine Keeps.drewN ?_ _) | (with_reducible refine Keeps.drew ?_) | (with_reducible refine Keeps.alloc ?_ _) | (with_reducible refine Keeps.setCell ?_ ?_ _) | (with_reducible refine Keeps.trans ?_ (After.keeps _)) | (with_reducible refine Keeps.trans ?_ (by with_reducible assumption)) | go_size)))) hd hm h8).mono ?_; rintro e w' ⟨v1, rfl, hu, G1⟩; have R := RGripAt.past2 (R.keeps (by (repeat' (first | (with_reducible exact Keeps.refl _) | (with_reducible assumption) | (with_reducible refine Keeps.drewN ?_ _) | (with_reducible refine Keeps.drew ?_) | (with_reducible refine Keeps.alloc ?_ _) | (with_reducible refine Keeps.setCell ?_ ?_ _) | (with_reducible refine Keeps.trans ?_ (After.keeps _)) | (with_reducible refine Keeps.trans ?_ (by with_reducible assumption)) | go_size)))) (G.keeps (by (repeat' (first | (with_reducible exact Keeps.refl _) | (with_reducible assumption) | (with_reducible refine Keeps.drewN ?_ _) | (with_reducible refine Keeps.drew ?_) | (with_reducible refine Keeps.alloc ?_ _) | (with_reducible refine Keeps.setCell ?_ ?_ _) | (with_reducible refine Keeps.trans ?_ (After.keeps _)) | (with_reducible refine Keeps.trans ?_ (by with_reducible assumption)) | go_size)))) hu; have K := GripAt.k2 (Keeps.trans K (by (repeat' (first | (with_reducible exact Keeps.refl _) | (with_reducible assumption) | (with_reducible refine Keeps.drewN ?_ _) | (with_reducible refine Keeps.drew ?_) | (with_reducible refine Keeps.alloc ?_ _) | (with_reducible refine Keeps.setCell ?_ ?_ _) | (with_reducible refine Keeps.trans ?_ (After.keeps _)) | (with_reducible refine Keeps.trans ?_ (by with_reducible assumption)) | go_size)))) (G.keeps (by (repeat' (first | (with_reducible exact Keeps.refl _) | (with_reducible assumption) | (with_reducible refine Keeps.drewN ?_ _) | (with_reducible refine Keeps.drew ?_) | (with_reducible refine Keeps.alloc ?_ _) | (with_reducible refine Keeps.setCell ?_ ?_ _) | (with_reducible refine Keeps.trans ?_ (After.keeps _)) | (with_reducible refine Keeps.trans ?_ (by with_reducible assumption)) | go_size)))) hu; have HD := (HD.keeps (by (repeat' (first | (with_reducible exact Keeps.refl _) | (with_reducible assumption) | (with_reducible refine Keeps.drewN ?_ _) | (with_reducible refine Keeps.drew ?_) | (with_reducible refine Keeps.alloc ?_ _) | (with_reducible refine Keeps.setCell ?_ ?_ _) | (with_reducible refine Keeps.trans ?_ (After.keeps _)) | (with_reducible refine Keeps.trans ?_ (by with_reducible assumption)) | go_size)))).upd hu hfr; have G := G1)
            | (go_at_call 44; refine (rghold_new _ _ _ _ _ _ _ _ (R.keeps (by (repeat' (first | (with_reducible exact Keeps.refl _) | (with_reducible assumption) | (with_reducible refine Keeps.drewN ?_ _) | (with_reducible refine Keeps.drew ?_) | (with_reducible refine Keeps.alloc ?_ _) | (with_reducible refine Keeps.setCell ?_ ?_ _) | (with_reducible refine Keeps.trans ?_ (After.keeps _)) | (with_reducible refine Keeps.trans ?_ (by with_reducible assumption)) | go_size)))) hd hm h8).mono ?_; rintro e w' ⟨u1, rfl, hv, R1⟩; have G := GripAt.past (G.keeps (by (repeat' (first | (with_reducible exact Keeps.refl _) | (with_reducible assumption) | (with_reducible refine Keeps.drewN ?_ _) | (with_reducible refine Keeps.drew ?_) | (with_reducible refine Keeps.alloc ?_ _) | (with_reducible refine Keeps.setCell ?_ ?_ _) | (with_reducible refine Keeps.trans ?_ (After.keeps _)) | (with_reducible refine Keeps.trans ?_ (by with_reducible assumption)) | go_size)))) (R.keeps (by (repeat' (first | (with_reducible exact Keeps.refl _) | (with_reducible assumption) | (with_reducible refine Keeps.drewN ?_ _) | (with_reducible refine Keeps.drew ?_) | (with_reducible refine Keeps.alloc ?_ _) | (with_reducible refine Keeps.setCell ?_ ?_ _) | (with_reducible refine Keeps.trans ?_ (After.keeps _)) | (with_reducible refine Keeps.trans ?_ (by with_reducible assumption)) | go_size)))) hv; have K := RGripAt.k1 (Keeps.trans K (by (repeat' (first | (with_reducible exact Keeps.refl _) | (with_reducible assumption) | (with_reducible refine Keeps.drewN ?_ _) | (with_reducible refine Keeps.drew ?_) | (with_reducible refine Keeps.alloc ?_ _) | (with_reducible refine Keeps.setCell ?_ ?_ _) | (with_reducible refine Keeps.trans ?_ (After.keeps _)) | (with_reducible refine Keeps.trans ?_ (by with_reducible assumption)) | go_size)))) (R.keeps (by (repeat' (first | (with_reducible exact Keeps.refl _) | (with_reducible assumption) | (with_reducible refine Keeps.drewN ?_ _) | (with_reducible refine Keeps.drew ?_) | (with_reducible refine Keeps.alloc ?_ _) | (with_reducible refine Keeps.setCell ?_ ?_ _) | (with_reducible refine Keeps.trans ?_ (After.keeps _)) | (with_reducible refine Keeps.trans ?_ (by with_reducible assumption)) | go_size)))) hv; have HD := (HD.keeps (by (repeat' (first | (with_reducible exact Keeps.refl _) | (with_reducible assumption) | (with_reducible refine Keeps.drewN ?_ _) | (with_reducible refine Keeps.drew ?_) | (with_reducible refine Keeps.alloc ?_ _) | (with_reducible refine Keeps.setCell ?_ ?_ _) | (with_reducible refine Keeps.trans ?_ (After.keeps _)) | (with_reducible refine Keeps.trans ?_ (by with_reducible assumption)) | go_size)))).upd hv (by simp; exact hfx); have R := R1))
          go_upto_region 28 with fail
          refine wp_named (fun W hW => ?_)
          have G := G.keeps (w' := W) (by rw [hW]; (repeat' (first | (with_reducible exact Keeps.refl _) | (with_reducible assumption) | (with_reducible refine Keeps.drewN ?_ _) | (with_reducible refine Keeps.drew ?_) | (with_reducible refine Keeps.alloc ?_ _) | (with_reducible refine Keeps.setCell ?_ ?_ _) | (with_reducible refine Keeps.trans ?_ (After.keeps _)) | (with_reducible refine Keeps.trans ?_ (by with_reducible assumption)) | go_size)))
          have R := R.keeps (w' := W) (by rw [hW]; (repeat' (first | (with_reducible exact Keeps.refl _) | (with_reducible assumption) | (with_reducible refine Keeps.drewN ?_ _) | (with_reducible refine Keeps.drew ?_) | (with_reducible refine Keeps.alloc ?_ _) | (with_reducible refine Keeps.setCell ?_ ?_ _) | (with_reducible refine Keeps.trans ?_ (After.keeps _)) | (with_reducible refine Keeps.trans ?_ (by with_reducible assumption)) | go_size)))
          have K := Keeps.trans K (show Keeps _ W by rw [hW]; (repeat' (first | (with_reducible exact Keeps.refl _) | (with_reducible assumption) | (with_reducible refine Keeps.drewN ?_ _) | (with_reducible refine Keeps.drew ?_) | (with_reducible refine Keeps.alloc ?_ _) | (with_reducible refine Keeps.setCell ?_ ?_ _) | (with_reducible refine Keeps.trans ?_ (After.keeps _)) | (with_reducible refine Keeps.trans ?_ (by with_reducible assumption)) | go_size)))
          have HD := HD.keeps (w' := W) (by rw [hW]; (repeat' (first | (with_reducible exact Keeps.refl _) | (with_reducible assumption) | (with_reducible refine Keeps.drewN ?_ _) | (with_reducible refine Keeps.drew ?_) | (with_reducible refine Keeps.alloc ?_ _) | (with_reducible refine Keeps.setCell ?_ ?_ _) | (with_reducible refine Keeps.trans ?_ (After.keeps _)) | (with_reducible refine Keeps.trans ?_ (by with_reducible assumption)) | go_size)))
          clear hW
          obtain ⟨ua, ucap, hu', -⟩ := R.row.form
          (try subst hu')
          have hX := fun q => rgrip_cells R q
          have hY := fun q => d3cells HD q
          have hLl := G.len
          (refine wp_region_after_lit (by kernel_rfl) (by kernel_rfl) ?_; (try simp only [List.append_eq, List.cons_append, List.nil_append]); (repeat (first | go_big_quiet_step ((first | (go_at_call 45; exact calls_after_same (gdepth_c _ _ _ _ _ _ (G.keeps (After.keeps _)))) | (go_at_call 46; exact calls_after_same (glen_c _ _ _ _ _ _ (G.keeps (After.keeps _)))) | (go_at_call 47; exact calls_after (gholds_c _ _ _ _ _ _ _ _ (G.keeps (After.keeps _)))) | (go_at_call 48; exact calls_after_same (rgholds_c _ _ _ _ _ _ _ _ (R.keeps (After.keeps _)))))) | ((with_reducible refine wpQuiet_step (fun K hK => ?_)); go_simp; first | (refine hK _ ?_; clear hK K) | (apply Exists.intro; refine ⟨fun _ => ?_, hK _ ?_⟩; (first | (go_at_call 45; exact calls_after_same (gdepth_c _ _ _ _ _ _ (G.keeps (After.keeps _)))) | (go_at_call 46; exact calls_after_same (glen_c _ _ _ _ _ _ (G.keeps (After.keeps _)))) | (go_at_call 47; exact calls_after (gholds_c _ _ _ _ _ _ _ _ (G.keeps (After.keeps _)))) | (go_at_call 48; exact calls_after_same (rgholds_c _ _ _ _ _ _ _ _ (R.keeps (After.keeps _))))); clear hK K) | (refine ⟨.bool false, fun _ => ?_, hK _ ?_⟩; (simp; done); clear hK K) | (refine ⟨.bool true, fun _ => ?_, hK _ ?_⟩; (simp; done); clear hK K)))); refine wpQuiet_nil ?_; intro _ hw'; obtain ⟨uq, hw''⟩ := hw'; subst hw'')
          go_wp2
          go_roundw
          case rel => exact ⟨k + 1, _, _, _, _, by omega, by go_num, G.keeps uq.keeps, R.keeps uq.keeps, K.trans uq.keeps, by omega, by omega, by simp; omega⟩
          case measure => simp [intOf]; omega
      · obtain rfl : k = zs.length := by omega
        go_wp2
        go_ret
        exact ⟨rfl, K⟩
end Go.Proofs.Ythlojiefnclgkaa
