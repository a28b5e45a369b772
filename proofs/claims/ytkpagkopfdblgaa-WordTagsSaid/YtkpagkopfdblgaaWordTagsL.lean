/- The law WordTags, walked. -/
import Derived.Test.YtkpagkopfdblgaaWordL
import Derived.Test.YtkpagkopfdblgaaReads
import Derived.Test.YtkpagkopfdblgaaRow
import Derived.Test.YtkpagkopfdblgaaNum
import Derived.Deep.RegionHeld3
import Derived.Deep.RegionLaw
import Derived.LoopTactic
import Derived.Deep.DeepCutAuto
import Derived.Deep.QuietTactic
import Derived.BigQuiet
namespace Go.Proofs.Ytkpagkopfdblgaa
set_option linter.unusedVariables false
set_option linter.unusedSimpArgs false
open Go Go.RowKit
set_option maxRecDepth 100000
set_option maxHeartbeats 2000000

theorem info_u64t : (Try.prog.info? 29).map (fun i => (i.zero, i.size, i.bytes)) = some (some (.int .u64 0), 1, 8) := by kernel_rfl
theorem wrapT_ok (a : Int) (h0 : -9223372036854775808 ≤ a) (h1 : a < 9223372036854775808) : IntKind.i64.wrap a = a := by
  rw [IntKind.wrap_i64]
  omega
theorem numberT_is (a n q : Int) (w : World) (h : 1 ≤ n) (h2 : n ≤ 4611686018427387904) (e : a % n = q) : Calls Try.prog 15 #[.int .i64 a, .int .i64 n] w fun e w' => e = .returned (.int .i64 q) ∧ w = w' := by
  subst e; exact number_c a n w h h2
theorem tagN_next (t0 i : Int) : tagN ((t0 + i) % 4294967296) = (t0 + (i + 1)) % 4294967296 := by
  unfold tagN
  split <;> omega
theorem headI_at {u t : Int} (u0 : 0 ≤ u) (u1 : u < 5) (t0 : 0 ≤ t) (t1 : t < 4294967296) : headI (u - 1) t = t * 4294967296 + u ∧ headB (u - 1) t = true := by
  have hb : headB (u - 1) t = true := headB_true.2 (by omega)
  refine ⟨?_, hb⟩
  unfold headI
  rw [if_pos hb]
  omega
/-- The words that were seen: of each, its tag. -/
def Seen (t0 : Int) (ts : List Int) : Prop := ∀ (k : Nat) (v : Int), ts[k]? = some v → v / 4294967296 = (t0 + ((k : Int) + 1)) % 4294967296
theorem Seen.snoc {t0 v : Int} {ts : List Int} (h : Seen t0 ts) (hv : v / 4294967296 = (t0 + ((ts.length : Int) + 1)) % 4294967296) : Seen t0 (ts ++ [v]) := by
  intro k u hk
  rcases Nat.lt_or_ge k ts.length with h1 | h1
  · rw [List.getElem?_append_left h1] at hk; exact h k u hk
  · rw [List.getElem?_append_right h1] at hk
    by_cases h2 : k = ts.length
    · subst h2; simp at hk; subst hk; exact hv
    · rw [List.getElem?_eq_none (by simp; omega)] at hk; cases hk
theorem Seen.ne {t0 v u : Int} {ts : List Int} (h : Seen t0 ts) (hl : ts.length ≤ 60) (hv : v / 4294967296 = (t0 + ((ts.length : Int) + 1)) % 4294967296) {k : Nat} (hk : ts[k]? = some u) : (u == v) = false := by
  have h1 := h k u hk
  have h2 := (List.getElem?_eq_some_iff.1 hk).1
  rw [beq_eq_false_iff_ne]
  rintro rfl
  omega
theorem wordTags_core (tg n : Int) (v : Value) (zs : List Int) (w : World) (hr : Reads .i64 w v zs) (hl : zs.length ≤ 60) :
    Calls Try.prog 3 #[.int .i64 tg, .int .i64 n, v] w fun e w' => e = .returned (.bool true) ∧ Keeps w w' := by
  obtain ⟨sa, cap, rfl, hrr⟩ := hr
  have HR := Lib.hid hrr
  have hq := mod_bd tg 3 (by omega)
  obtain ⟨r, hr3⟩ : ∃ r, tg % 3 = r := ⟨_, rfl⟩
  rw [hr3] at hq
  obtain ⟨q0, q1⟩ := hq
  have HQ := Lib.hid hr3
  have hl' : ¬ (60 : Int) < zs.length := by omega
  obtain ⟨ii0, hii, hz0, hz1, hz2⟩ := info_parts info_u64t
  obtain ⟨t0, ht0⟩ : ∃ t0, r * 2147483647 = t0 := ⟨_, rfl⟩
  have HT0 := Lib.hid ht0
  have tb0 : 0 ≤ t0 := by omega
  have tb1 : t0 < 4294967296 := by omega
  clear hrr hr3
  have tk : True := trivial
  go_enter Try.func3, Try.ntmps3
  go_wp2_with (first
    | (go_at_call 14; refine (wfirst_c _).mono ?_; rintro e w' ⟨rfl, K0⟩)
    | (go_at_call 15; have t_ := tk; clear t_ tk; refine (numberT_is _ _ _ _ (by omega) (by omega) HQ.out).mono ?_; rintro e w' ⟨rfl, rfl⟩))
  have szK := K0.size
  generalize hhb : w'.heap.size = hb at *
  clear ht0
  go_loopw [9, 10] (fun sv iv wr => ∃ (i : Nat) (ix t : Int) (ts : List Int), i ≤ zs.length ∧ iv = .int .i64 i ∧ ts.length = i ∧ Hid (Seen t0 ts) ∧ Hid (t = (t0 + i) % 4294967296) ∧ Row w.heap.size 29 wr sv (ts.map (Value.int .u64)) ∧ Has wr hb #[.int .i64 ix, .int .i64 t] 26 ∧ Keeps w wr) (fun _ iv _ => zs.length - (intOf iv).toNat)
  case atStart =>
    subst hhb
    exact ⟨0, -1, t0, [], by omega, rfl, rfl, Lib.hid (fun k v h => by simp at h), Lib.hid (by omega), Row.nil _ _ _, Has.new _ _ _, K0.alloc _⟩
  case round =>
    clear K0
    obtain ⟨i, ix, t, ts, hi, rfl, hts, HSn, HT, R, HB, K0⟩ := hrel
    have hi1 : Hid (((i : Int) + 1) = ((i + 1 : Nat) : Int)) := Lib.hid (by omega)
    by_cases hlt : i < zs.length
    · obtain ⟨bl, off, rfl, hab, hc⟩ := HR.out (by rintro rfl; simp at hlt)
      have c1 := hc i zs[i] (List.getElem?_eq_getElem hlt)
      have HCz : Hid (∀ wX, Keeps wr wX → wX.cell? ⟨bl, off + i, none⟩ = some (.int .i64 zs[i])) := Lib.hid (fun wX hk => ((K0.trans hk).cell hab).trans c1)
      rw [← K0.cell hab] at c1
      clear hc
      generalize zs[i] = z at *
      have hu := mod_bd z 5 (by omega)
      obtain ⟨u, hu5⟩ : ∃ u, z % 5 = u := ⟨_, rfl⟩
      rw [hu5] at hu
      obtain ⟨u0, u1⟩ := hu
      have HU := Lib.hid hu5
      have hlt' : (i : Int) < zs.length := by omega
      have i0 : (0 : Int) ≤ (i : Int) := by omega
      obtain ⟨t', ht'⟩ : ∃ t', (t0 + ((i : Int) + 1)) % 4294967296 = t' := ⟨_, rfl⟩
      have HT' := Lib.hid ht'
      have tb : 0 ≤ t ∧ t < 4294967296 := by have := HT.out; omega
      have tb' : 0 ≤ t' ∧ t' < 4294967296 := by omega
      obtain ⟨tb2, tb3⟩ := tb
      obtain ⟨tb4, tb5⟩ := tb'
      have HTn : Hid (tagN t = t') := Lib.hid (by rw [HT.out, tagN_next, ht'])
      have e13 : (t + 1) % 4294967296 = t' := by have := HT.out; omega
      have hh := headI_at u0 u1 tb4 tb5
      obtain ⟨W, hW⟩ : ∃ W, t' * 4294967296 + u = W := ⟨_, rfl⟩
      have HWh : Hid (headI (u - 1) t' = W ∧ headB (u - 1) t' = true) := Lib.hid ⟨by rw [hh.1, hW], hh.2⟩
      have hWt : W / 4294967296 = t' := by omega
      have HWt : Hid (W / 4294967296 = (t0 + ((ts.length : Int) + 1)) % 4294967296) := Lib.hid (by rw [hts, hWt, ht'])
      have pw := wrapT_ok (u - 1) (by omega) (by omega)
      clear hu5 ht' hh hW hWt
      have HB0 : Hid ((#[.int .i64 ix, .int .i64 t] : Array Value)[0]? = some (.int .i64 ix)) := Lib.hid rfl
      have HB1 : Hid ((#[.int .i64 ix, .int .i64 t] : Array Value)[1]? = some (.int .i64 t)) := Lib.hid rfl
      have HN := Lib.hid (fun wX => numberT_is z 5 u wX (by omega) (by omega) HU.out)
      go_wp2
      have b0 := HB.cellv HB0.out
      have b1 := HB.cellv HB1.out
      have hbl : bl < wr.heap.size := Nat.lt_of_lt_of_le hab K0.size
      have hbk : hb < wr.heap.size := HB.lt
      go_cut [11] (fun xv wc => ∃ xb : Nat, xv = .pointer (some ⟨xb, 0, none⟩) ∧ wr.heap.size ≤ xb ∧ Has wc xb #[.int .i64 (u - 1), .int .i64 t'] 26 ∧ Keeps wr wc)
      case first =>
        go_region_held3 (fun y => (y.cell? ⟨hb, 0, none⟩ = some (.int .i64 ix) ∧ y.cell? ⟨hb, 1, none⟩ = some (.int .i64 t)) ∧ y.cell? ⟨bl, off + i, none⟩ = some (.int .i64 z)) (refine ⟨⟨(HB.keeps ?_).cellv HB0.out, (HB.keeps ?_).cellv HB1.out⟩, HCz.out _ ?_⟩ <;> ((repeat' (first | (with_reducible exact Keeps.refl _) | (with_reducible assumption) | (with_reducible refine Keeps.drewN ?_ _) | (with_reducible refine Keeps.drew ?_) | (with_reducible refine Keeps.alloc ?_ _) | (with_reducible refine Keeps.setCell ?_ ?_ _) | (with_reducible refine Keeps.trans ?_ (After.keeps _)) | (with_reducible refine Keeps.trans ?_ (by with_reducible assumption)) | go_size)); (first | done | fail)))
          (first
          | (go_at_call 15; refine (HN.out _).mono ?_; rintro e w' ⟨rfl, rfl⟩)
          | (go_at_call 16; refine (next_c _ _ _ _).mono ?_; rintro e w' ⟨rfl, hkn⟩; rw [HTn.out]; have KA : Keeps wr w' := Keeps.trans ?_ hkn; (rotate_left; (focus ((repeat' (first | (with_reducible exact Keeps.refl _) | (with_reducible assumption) | (with_reducible refine Keeps.drewN ?_ _) | (with_reducible refine Keeps.drew ?_) | (with_reducible refine Keeps.alloc ?_ _) | (with_reducible refine Keeps.setCell ?_ ?_ _) | (with_reducible refine Keeps.trans ?_ (After.keeps _)) | (with_reducible refine Keeps.trans ?_ (by with_reducible assumption)) | go_size)); (first | done | fail)))); (first | (have HX : Has w' wr.heap.size #[.int .i64 0, .int .i64 0] 26 := ((Has.new wr _ _).drew).keeps hkn; have x0 := HX.cellv (o := 0) rfl; have x1 := HX.cellv (o := 1) rfl; have xf := HX.frozen) | skip)))
        all_goals go_wp2
        all_goals (go_meet; case rel => exact ⟨_, rfl, (by first | exact Nat.le_refl _ | exact KA.size | go_size), by (apply Has.congr; (focus ((repeat (first | (with_reducible assumption) | (with_reducible exact Has.new _ _ _) | (with_reducible exact Has.new1 _ _ _ _) | (with_reducible exact Has.new2 _ _ _ _ _) | (with_reducible refine Has.newAt ?_; (simp; done)) | (with_reducible apply Has.set) | (with_reducible apply Has.far; (case hn => first | assumption | (simp; done) | (intro e_; simp at e_; omega))) | (with_reducible apply Has.alloc) | (with_reducible apply Has.drewN) | (with_reducible apply Has.drew) | (with_reducible refine Has.keeps ?_ (by with_reducible assumption)))))); (first | rfl | (simp; done))), by ((repeat' (first | (with_reducible exact Keeps.refl _) | (with_reducible assumption) | (with_reducible refine Keeps.drewN ?_ _) | (with_reducible refine Keeps.drew ?_) | (with_reducible refine Keeps.alloc ?_ _) | (with_reducible refine Keeps.setCell ?_ ?_ _) | (with_reducible refine Keeps.trans ?_ (After.keeps _)) | (with_reducible refine Keeps.trans ?_ (by with_reducible assumption)) | go_size)); (first | done | fail))⟩)
      case rest =>
        clear b0 b1 c1
        obtain ⟨xb, rfl, hxb, HX, KA⟩ := hcut
        have HB := HB.keeps KA
        have K0 := K0.trans KA
        have R := R.keeps KA
        have c1 := HCz.out _ KA
        have hne : hb ≠ xb := by omega
        have x0 := HX.cellv (o := 0) rfl
        have x1 := HX.cellv (o := 1) rfl
        have b0 := HB.cellv HB0.out
        have b1 := HB.cellv HB1.out
        go_wp2_with (go_at_call 17; refine (putHead_c _ _ _).mono ?_; rintro e w' ⟨rfl, hkp⟩; rw [HWh.out.1, HWh.out.2]; have HB := HB.keeps hkp; have HX := HX.keeps hkp; have K0 := K0.trans hkp; have R := R.keeps hkp; have KA := KA.trans hkp; have b0 := HB.cellv HB0.out; have b1 := HB.cellv HB1.out; have x0 := HX.cellv (o := 0) rfl; have x1 := HX.cellv (o := 1) rfl; have c1 := HCz.out _ KA)
        have HNq := Lib.hid (fun k => Calls.quiet_of_same (n := k) (w := w') ((HN.out (w'.drewN k)).mono fun _ _ ⟨p, q⟩ => ⟨p, q.symm⟩))
        go_quiet ((go_at_call 15; with_reducible exact HNq.out _))
        go_wp2
        generalize hW9 : w'.drewN _ = W2
        have hk9 : Keeps w' W2 := by rw [← hW9]; ((repeat' (first | (with_reducible exact Keeps.refl _) | (with_reducible assumption) | (with_reducible refine Keeps.drewN ?_ _) | (with_reducible refine Keeps.drew ?_) | (with_reducible refine Keeps.alloc ?_ _) | (with_reducible refine Keeps.setCell ?_ ?_ _) | (with_reducible refine Keeps.trans ?_ (After.keeps _)) | (with_reducible refine Keeps.trans ?_ (by with_reducible assumption)) | go_size)); (first | done | fail))
        clear hW9
        have HB := HB.keeps hk9
        have HX := HX.keeps hk9
        have K0 := K0.trans hk9
        have R := R.keeps hk9
        obtain ⟨sad, scap, hsv, hsc⟩ := R.form
        rw [List.length_map, hts] at hsv
        subst hsv
        have hown : W2.ownsRow w.heap.size 29 1 (.slice sad i scap) i (ts.map (Value.int .u64)) := by
          have h := R
          unfold Row at h
          rwa [List.length_map, hts] at h
        have x0 := HX.cellv (o := 0) rfl
        have x1 := HX.cellv (o := 1) rfl
        have b0 := HB.cellv HB0.out
        have b1 := HB.cellv HB1.out
        have bf := HB.frozen
        have HSc := Lib.hid hsc
        have szr := K0.size
        clear hsc c1 R
        go_loop [14] (fun kv => ∃ k : Nat, k ≤ i ∧ kv = .int .i64 k) (fun kv => i - (intOf kv).toNat)
        case atStart => exact ⟨0, by omega, rfl⟩
        case round =>
          obtain ⟨k, hk, rfl⟩ := hrel
          by_cases hlk : k < i
          · have hk2 : k < ts.length := by omega
            obtain ⟨sb, rfl, hsb, hsb2, hsc⟩ := HSc.out (by rintro e; have := congrArg List.length e; simp at this; subst this; simp at hk2)
            have cc := hsc k (.int .u64 ts[k]) (by simp [List.getElem?_eq_getElem hk2])
            have hne := HSn.out.ne (by omega) HWt.out (List.getElem?_eq_getElem hk2)
            have hlk' : (k : Int) < i := by omega
            generalize ts[k] = tk1 at *
            clear hsc
            go_wp2
            go_round
            case rel => exact ⟨k + 1, by omega, by go_num⟩
            case measure => simp [intOf]; omega
          · obtain rfl : k = i := by omega
            go_wp2_with (at_builtin; refine wpList_append_own _ rfl _ _ 27 rfl w.heap.size 29 ii0 _ 1 8 Try.underlying27 hii hz0 hz1 hz2 rfl (by decide) _ _ _ rfl (own_keeps hown ((Keeps.refl W2).alloc _)) ⟨W2.heap.size, 0, none⟩ 1 1 [.int .u64 W] rfl rfl (news_one (Has.new _ _ _)) (by intro u hu; simp at hu; subst hu; rfl) (by unfold maxLen; omega) (by omega) (by simp; omega) ?_; intro v1 w1 hown1 hgrow1 hnil1; have hU := Upd.grown hgrow1; have nhb := own_ne hown HB (by decide); have nxb := own_ne hown HX (by decide); have HB := (HB.alloc (.cells #[.int .u64 W] 29)).upd hU (fun hx => nhb _ hx rfl); have HX := (HX.alloc (.cells #[.int .u64 W] 29)).upd hU (fun hx => nxb _ hx rfl); have K0 := (K0.alloc (.cells #[.int .u64 W] 29)).upd hU (fun y hy => (own_lt hown y hy).1); have x0 := HX.cellv (o := 0) rfl; have x1 := HX.cellv (o := 1) rfl; have b0 := HB.cellv HB0.out; have b1 := HB.cellv HB1.out; have bf := HB.frozen; have nhv := own_ne hown1 HB (by decide))
            have hU2 : Upd [hb] w1 ((w1.setCell ⟨hb, 0, none⟩ (.int .i64 (u - 1))).setCell ⟨hb, 1, none⟩ (.int .i64 t')) := ((Upd.refl _ _).setCell (.inl (by simp)) _).setCell (.inl (by simp)) _
            have R1 : Row w.heap.size 29 w1 v1 ((ts ++ [W]).map (Value.int .u64)) := by
              unfold Row
              rw [List.length_map, List.length_append, List.map_append, hts]
              exact hown1
            go_roundw
            case rel =>
              exact ⟨k + 1, u - 1, t', ts ++ [W], by omega, by go_num, by simp [hts], Lib.hid (HSn.out.snoc HWt.out), Lib.hid (by rw [← HT'.out, hi1.out]), R1.upd hU2 (fun y hy => by simp; exact nhv y hy), by (apply Has.congr; (focus ((repeat (first | (with_reducible assumption) | (with_reducible exact Has.new _ _ _) | (with_reducible exact Has.new1 _ _ _ _) | (with_reducible exact Has.new2 _ _ _ _ _) | (with_reducible refine Has.newAt ?_; (simp; done)) | (with_reducible apply Has.set) | (with_reducible apply Has.far; (case hn => first | assumption | (simp; done) | (intro e_; simp at e_; omega))) | (with_reducible apply Has.alloc) | (with_reducible apply Has.drewN) | (with_reducible apply Has.drew) | (with_reducible refine Has.keeps ?_ (by with_reducible assumption)))))); (first | rfl | (simp; done))), K0.upd hU2 (by simp; omega)⟩
            case measure => simp [intOf]; omega
    · obtain rfl : i = zs.length := by omega
      have hqn := mod_bd n 1000 (by omega)
      obtain ⟨qn, hqn2⟩ : ∃ qn, n % 1000 = qn := ⟨_, rfl⟩
      rw [hqn2] at hqn
      have HQn := Lib.hid hqn2
      have HTz : Hid (tagN (-1 - qn) = 0) := Lib.hid (by unfold tagN; rw [if_neg (by omega)])
      obtain ⟨qn0, qn1⟩ := hqn
      clear hqn2
      go_wp2_with (first
        | (go_at_call 15; refine (numberT_is _ _ _ _ (by omega) (by omega) HQn.out).mono ?_; rintro e w' ⟨rfl, rfl⟩)
        | (go_at_call 16; refine (next_c _ _ _ _).mono ?_; rintro e w' ⟨rfl, hkn⟩; rw [HTz.out]))
      go_ret
      exact ⟨rfl, K0.trans hkn⟩
theorem wordTags_c (tg n : Int) (v : Value) (zs : List Int) (w : World) (hr : Reads .i64 w v zs) :
    Calls Try.prog 3 #[.int .i64 tg, .int .i64 n, v] w fun e w' => e = .returned (.bool true) ∧ Keeps w w' := by
  by_cases hl : zs.length ≤ 60
  · exact wordTags_core tg n v zs w hr hl
  · obtain ⟨sa, cap, rfl, -⟩ := hr
    have hl' : (60 : Int) < zs.length := by omega
    clear hl
    go_enter Try.func3, Try.ntmps3
    go_wp2_with (go_at_call 14; refine (wfirst_c _).mono ?_; rintro e w' ⟨rfl, K0⟩)
    go_ret
    exact ⟨rfl, K0⟩
end Go.Proofs.Ytkpagkopfdblgaa
