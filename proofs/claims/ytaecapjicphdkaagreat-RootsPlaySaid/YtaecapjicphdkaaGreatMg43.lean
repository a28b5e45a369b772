/- same of layer 11, walked. -/
import Derived.Test.YtaecapjicphdkaaGreatMg40
import Derived.Deep.QuietTactic
import Derived.BigQuiet
import Derived.LoopTactic
import Derived.Test.YtaecapjicphdkaaGreatMg05
import Derived.Test.YtaecapjicphdkaaGreatMg42
import Derived.Test.YtaecapjicphdkaaGreatMg35
import Derived.Test.YtaecapjicphdkaaGreatMg20
import Derived.Deep.DeepCutAuto
namespace Go.Proofs.YtaecapjicphdkaaGreat
set_option linter.unusedVariables false
set_option linter.unusedSimpArgs false
open Go Go.RowKit
set_option maxRecDepth 100000
set_option maxHeartbeats 2000000

section
variable {w : World} {m b g gb N W : Nat} {l : List Int} {cc : Int} {x : Acc} {p k d sn cz bb : Int} {Pl Sp E : Value}
theorem hsame_c (M : Mem w m b N l cc x) (RM : RMem w g gb N l cc) (hW : Has w W (rwOf p k d sn cz bb g Pl Sp E) 85) :
    Calls Tryz.prog 25 #[.pointer (some ⟨m, 0, none⟩), .pointer (some ⟨W, 0, none⟩)] w fun e w' => e = .returned (.bool true) ∧ Keeps w w' := by
  have hs := M.small
  have hlen := M.len
  have HX := Lib.hid M
  have HY := Lib.hid RM
  have HZ := Lib.hid hW
  clear M RM hW
  go_enter Tryz.func25, Tryz.ntmps25
  go_wp2
  go_loopw [5] (fun iv wr => ∃ i : Nat, i ≤ N ∧ iv = .int .i64 i ∧ Mem wr m b N l cc x ∧ RMem wr g gb N l cc ∧ Has wr W (rwOf p k d sn cz bb g Pl Sp E) 85 ∧ Keeps w wr) (fun iv _ => N - (intOf iv).toNat)
  case atStart => exact ⟨0, by omega, rfl, HX.out, HY.out, HZ.out, Keeps.refl _⟩
  case round =>
    obtain ⟨i, hi, rfl, M, RM, hW, K0⟩ := hrel
    have HMg := RM.hg
    have HMb := RM.hb
    have FX_ := (HMg).facts; simp only [blockFacts, listFacts, cellsAt, Nat.reduceAdd, and_true, true_and, and_assoc] at FX_
    have FG_ := FX_
    have FX_ := (hW).facts; simp only [blockFacts, listFacts, cellsAt, Nat.reduceAdd, and_true, true_and, and_assoc, rwOf] at FX_
    by_cases hlt : i < N
    · have hlt' : (i : Int) < N := by omega
      have i0 : (0 : Int) ≤ (i : Int) := by omega
      have ho : l[i]? = some (l.getD i 0) := getD_some (by omega)
      have e1 : (u64s l)[i]? = some (.int .u64 (l.getD i 0)) := u64s_at ho
      have hce := HMb.cellv e1
      generalize l.getD i 0 = o at *
      have HPk := Lib.hid (fun k => Calls.quiet_of_same ((mpeek_in (M.drewN k) i ho).mono fun _ _ ⟨p, q⟩ => ⟨p, q.symm⟩))
      clear ho e1
      go_wp2
      go_quiet ((go_at_call 46; with_reducible exact HPk.out _))
      go_wp2
      generalize hW9 : wr.drewN _ = W1
      have hk : Keeps wr W1 := by rw [← hW9]; ((repeat' (first | (with_reducible exact Keeps.refl _) | (with_reducible assumption) | (with_reducible refine Keeps.drewN ?_ _) | (with_reducible refine Keeps.drew ?_) | (with_reducible refine Keeps.alloc ?_ _) | (with_reducible refine Keeps.setCell ?_ ?_ _) | (with_reducible refine Keeps.trans ?_ (After.keeps _)) | (with_reducible refine Keeps.trans ?_ (by with_reducible assumption)) | go_size)); (first | done | fail))
      clear hW9
      go_roundw
      case rel => exact ⟨i + 1, by omega, by go_num, M.keeps hk, RM.keeps hk, hW.keeps hk, K0.trans hk⟩
      case measure => simp [intOf]; omega
    · obtain rfl : i = N := by omega
      have HCt := Lib.hid (fun k => Calls.quiet_of_same ((mcount (M.drewN k)).mono fun _ _ ⟨p, q⟩ => ⟨p, q.symm⟩))
      have HLn := Lib.hid (fun k => Calls.quiet_of_same ((mlen (M.drewN k)).mono fun _ _ ⟨p, q⟩ => ⟨p, q.symm⟩))
      go_wp2
      go_quiet (first | (go_at_call 16; with_reducible exact HCt.out _) | (go_at_call 37; with_reducible exact HLn.out _))
      go_wp2
      go_ret
      exact ⟨rfl, K0.trans (by ((repeat' (first | (with_reducible exact Keeps.refl _) | (with_reducible assumption) | (with_reducible refine Keeps.drewN ?_ _) | (with_reducible refine Keeps.drew ?_) | (with_reducible refine Keeps.alloc ?_ _) | (with_reducible refine Keeps.setCell ?_ ?_ _) | (with_reducible refine Keeps.trans ?_ (After.keeps _)) | (with_reducible refine Keeps.trans ?_ (by with_reducible assumption)) | go_size)); (first | done | fail)))⟩
end
end Go.Proofs.YtaecapjicphdkaaGreat

/- SameInts, walked. -/
namespace Go.Proofs.YtaecapjicphdkaaGreat
set_option linter.unusedVariables false
set_option linter.unusedSimpArgs false
open Go Go.RowKit
set_option maxRecDepth 100000
set_option maxHeartbeats 1000000

theorem sameInts_c (a b : Value) (xs ys : List Int) (w : World) (h1 : Reads .i64 w a xs) (h2 : Reads .i64 w b ys) (hl : xs.length ≤ 1000000) (hl2 : ys.length ≤ 1000000) :
    Calls Tryz.prog 26 #[a, b] w fun e w' => e = .returned (.bool (decide (xs = ys))) ∧ Keeps w w' := by
  obtain ⟨aa, ca, rfl, ra⟩ := h1
  obtain ⟨ab, cb, rfl, rb⟩ := h2
  have RA := Lib.hid ra
  have RB := Lib.hid rb
  clear ra rb
  by_cases hlen : xs.length = ys.length
  · have q0 : ((xs.length : Int) == (ys.length : Int)) = true := by simp [hlen]
    have q1 : ((xs.length : Int) != (ys.length : Int)) = false := by simp [hlen]
    have HLn := Lib.hid hlen
    clear hlen
    go_enter Tryz.func26, Tryz.ntmps26
    go_wp2
    go_loopw [5] (fun i wr => ∃ k : Nat, k ≤ xs.length ∧ i = .int .i64 k ∧ Keeps w wr ∧ Hid (∀ j, j < k → xs[j]? = ys[j]?)) (fun i _ => xs.length - (intOf i).toNat)
    case atStart => exact ⟨0, by omega, rfl, Keeps.refl _, Lib.hid (fun j hj => by omega)⟩
    case round =>
      obtain ⟨k, hk, rfl, K0, hno⟩ := hrel
      by_cases hlt : k < xs.length
      · obtain ⟨b1, o1, rfl, hb1, hc1⟩ := RA.out (by rintro rfl; simp at hlt)
        obtain ⟨b2, o2, rfl, hb2, hc2⟩ := RB.out (by intro e; have := HLn.out; rw [e] at this; simp only [List.length_nil] at this; omega)
        have hlt2 : k < ys.length := by rw [← HLn.out]; exact hlt
        have c1 := (K0.cell hb1).trans (hc1 k xs[k] (List.getElem?_eq_getElem hlt))
        have c2 := (K0.cell hb2).trans (hc2 k ys[k] (List.getElem?_eq_getElem hlt2))
        clear hc1 hc2
        obtain ⟨x, hx⟩ : ∃ x, xs[k] = x := ⟨_, rfl⟩
        obtain ⟨y, hy⟩ : ∃ y, ys[k] = y := ⟨_, rfl⟩
        have HX := Lib.hid hx
        have HY := Lib.hid hy
        rw [hx] at c1
        rw [hy] at c2
        clear hx hy
        by_cases hz : x = y
        · have q : (x == y) = true := by simp [hz]
          have qn : (x != y) = false := by simp [hz]
          have HZ := Lib.hid hz
          clear hz
          go_wp2
          go_quiet (fail)
          go_wp2
          go_roundw
          case rel =>
            refine ⟨k + 1, by omega, by go_num, by ((repeat' (first | (with_reducible exact Keeps.refl _) | (with_reducible assumption) | (with_reducible refine Keeps.drewN ?_ _) | (with_reducible refine Keeps.drew ?_) | (with_reducible refine Keeps.alloc ?_ _) | (with_reducible refine Keeps.setCell ?_ ?_ _) | (with_reducible refine Keeps.trans ?_ (After.keeps _)) | (with_reducible refine Keeps.trans ?_ (by with_reducible assumption)) | go_size)); (first | done | fail)), Lib.hid (fun j hj => ?_)⟩
            rcases Nat.lt_or_ge j k with h1 | h1
            · exact hno.out j h1
            · obtain rfl : j = k := by omega
              rw [List.getElem?_eq_getElem hlt, List.getElem?_eq_getElem hlt2, HX.out, HY.out, HZ.out]
          case measure => simp [intOf]; omega
        · have q : (x == y) = false := by simp [hz]
          have qn : (x != y) = true := by simp [hz]
          have HZ := Lib.hid hz
          clear hz
          go_wp2
          go_quiet (fail)
          go_wp2
          go_ret
          have HD : decide (xs = ys) = false := decide_eq_false (fun e => by
            subst e
            exact HZ.out (HX.out.symm.trans HY.out))
          exact ⟨by rw [HD]; rfl, by ((repeat' (first | (with_reducible exact Keeps.refl _) | (with_reducible assumption) | (with_reducible refine Keeps.drewN ?_ _) | (with_reducible refine Keeps.drew ?_) | (with_reducible refine Keeps.alloc ?_ _) | (with_reducible refine Keeps.setCell ?_ ?_ _) | (with_reducible refine Keeps.trans ?_ (After.keeps _)) | (with_reducible refine Keeps.trans ?_ (by with_reducible assumption)) | go_size)); (first | done | fail))⟩
      · obtain rfl : k = xs.length := by omega
        go_wp2
        go_ret
        have HD : decide (xs = ys) = true := decide_eq_true (List.ext_getElem? fun j => by
          rcases Nat.lt_or_ge j xs.length with h1 | h1
          · exact hno.out j h1
          · rw [List.getElem?_eq_none h1, List.getElem?_eq_none (by rw [← HLn.out]; exact h1)])
        exact ⟨by rw [HD]; rfl, by ((repeat' (first | (with_reducible exact Keeps.refl _) | (with_reducible assumption) | (with_reducible refine Keeps.drewN ?_ _) | (with_reducible refine Keeps.drew ?_) | (with_reducible refine Keeps.alloc ?_ _) | (with_reducible refine Keeps.setCell ?_ ?_ _) | (with_reducible refine Keeps.trans ?_ (After.keeps _)) | (with_reducible refine Keeps.trans ?_ (by with_reducible assumption)) | go_size)); (first | done | fail))⟩
  · have q0 : ((xs.length : Int) == (ys.length : Int)) = false := by rw [beq_eq_false_iff_ne]; omega
    have q1 : ((xs.length : Int) != (ys.length : Int)) = true := by simp; omega
    have hd : decide (xs = ys) = false := decide_eq_false (fun e => hlen (by rw [e]))
    have HD := Lib.hid hd
    clear hlen hd
    go_enter Tryz.func26, Tryz.ntmps26
    go_wp2
    go_ret
    exact ⟨by rw [HD.out]; rfl, by ((repeat' (first | (with_reducible exact Keeps.refl _) | (with_reducible assumption) | (with_reducible refine Keeps.drewN ?_ _) | (with_reducible refine Keeps.drew ?_) | (with_reducible refine Keeps.alloc ?_ _) | (with_reducible refine Keeps.setCell ?_ ?_ _) | (with_reducible refine Keeps.trans ?_ (After.keeps _)) | (with_reducible refine Keeps.trans ?_ (by with_reducible assumption)) | go_size)); (first | done | fail))⟩
theorem sameInts_yes (a b : Value) (xs : List Int) (w : World) (h1 : Reads .i64 w a xs) (h2 : Reads .i64 w b xs) (hl : xs.length ≤ 1000000) :
    Calls Tryz.prog 26 #[a, b] w fun e w' => e = .returned (.bool true) ∧ Keeps w w' :=
  (sameInts_c a b xs xs w h1 h2 hl hl).mono fun e w' ⟨h, k⟩ => ⟨by rw [h, decide_eq_true rfl], k⟩
end Go.Proofs.YtaecapjicphdkaaGreat

/- The law RootsPlay, walked. -/
namespace Go.Proofs.YtaecapjicphdkaaGreat
set_option linter.unusedVariables false
set_option linter.unusedSimpArgs false
open Go Go.RowKit
set_option maxRecDepth 100000
set_option maxHeartbeats 4000000

abbrev hloc0 : HLoc := ⟨[], [], .slice none 0 0⟩
abbrev hwk0 : HWs := ⟨.no, []⟩
def hands0 : List Value := List.replicate 32 (.pointer none) ++ List.replicate 4 (.slice none 0 0)
theorem hgang0 (w : World) (B R S W Sp : Nat) : Gang HLoc.foot (HkRep B R S W Sp) w B (List.replicate 4 hloc0) (hks (List.replicate 4 hwk0)) :=
  ⟨fun i c k hc hk => by
    have h1 := List.eq_of_mem_replicate (List.mem_of_getElem? hc)
    have h2 : k = ⟨.no, .no, []⟩ := by
      have := List.mem_of_getElem? hk
      simpa [hks, List.replicate] using this
    subst h1 h2
    exact ⟨rfl, rfl, Row.nil _ _ _⟩, by simp [HLoc.foot, HLoc.segs, List.replicate], by simp [HLoc.foot, HLoc.segs, List.replicate], rfl, rfl⟩
theorem hties0 : HTies hands0 (List.replicate 4 hloc0) (List.replicate 4 hwk0) := by
  intro i c k hi hc hk
  have h1 := List.eq_of_mem_replicate (List.mem_of_getElem? hc)
  have h2 := List.eq_of_mem_replicate (List.mem_of_getElem? hk)
  subst h1 h2
  refine ⟨fun j hj => ?_, fun j hj e => absurd e (by show ¬ 4 = j; omega), ?_⟩
  · rw [if_neg (show ¬ hkind .no = j by show ¬ 4 = j; omega)]
    unfold hands0
    rw [List.getElem?_append_left (by simp; omega), List.getElem?_replicate, if_pos (by omega)]
  · unfold hands0
    rw [List.getElem?_append_right (by simp), List.getElem?_replicate, if_pos (by simp; omega)]
theorem hall0 {n : Nat} {l : List Int} (h : StOk 1 (4 + n) n (13 + 2 * n) l) : HAll n 0 l (List.replicate 4 hwk0) :=
  ⟨h, fun i k hk => by
    have h2 := List.eq_of_mem_replicate (List.mem_of_getElem? hk)
    subst h2
    exact ⟨trivial, by simp, by simp⟩⟩
theorem number_exH (v n : Int) (w : World) (h : 1 ≤ n) (h2 : n ≤ 4611686018427387904) : Calls Tryz.prog 10 #[.int .i64 v, .int .i64 n] w fun e w' => ∃ q : Nat, e = .returned (.int .i64 q) ∧ (q : Int) < n ∧ w = w' := by
  have hb := mod_bd v n h
  obtain ⟨q, hq⟩ := Int.eq_ofNat_of_zero_le hb.1
  refine (number_c v n w h h2).mono ?_
  rintro e w' ⟨rfl, rfl⟩
  exact ⟨q, by rw [hq], by omega, rfl⟩
theorem hlf_len {lk n : Nat} {l : List Int} : ∀ (f : Nat) (i : Int), (listFrom lk n l f i).length ≤ f
  | 0, i => by simp [listFrom]
  | f + 1, i => by
    by_cases hi : 0 ≤ i
    · show (if i < 0 then [] else i :: listFrom lk n l f (belowI n (l.getD ((lk : Int) + i).toNat 0))).length ≤ f + 1
      rw [if_neg (by omega)]; have := hlf_len (lk := lk) (n := n) (l := l) f (belowI n (l.getD ((lk : Int) + i).toNat 0)); rw [List.length_cons]; omega
    · show (if i < 0 then [] else _).length ≤ f + 1
      rw [if_pos (by omega)]; simp
theorem rootsPlay_core (nn : Int) (n : Nat) (v : Value) (zs : List Int) (w : World) (hr : Reads .i64 w v zs) (hl : zs.length ≤ 120) (hn : 1 + nn % 4 = n) (h1 : 1 ≤ n) (h4 : n ≤ 4) :
    Calls Tryz.prog 5 #[.int .i64 nn, v] w fun e w' => e = .returned (.bool true) ∧ Keeps w w' := by
  obtain ⟨a, cap, rfl, hrr⟩ := hr
  have HRd := Lib.hid hrr
  obtain ⟨q, hq⟩ : ∃ q, nn % 4 = q := ⟨_, rfl⟩
  have HQ := Lib.hid hq
  rw [hq] at hn
  clear hrr hq
  have hl' : ¬ (120 : Int) < zs.length := by omega
  have MD := Lib.hid (fun (y : World) => madeR_c n y h1 h4)
  have HN1 := Lib.hid hn
  have hqb0 : 0 ≤ q := by omega
  have hqb1 : q ≤ 3 := by omega
  clear hn
  go_enter Tryz.func5, Tryz.ntmps5
  go_upto_region 6 with (first
    | (go_at_call 6; refine (rootsFirst_c _).mono ?_; rintro e w' ⟨rfl, hk0⟩))
  go_upto_region 9 with (first
    | (go_at_call 10; refine (number_c _ _ _ (by omega) (by omega)).mono ?_; rintro e w' ⟨rfl, rfl⟩; rw [HQ.out])
    | (rw [HN1.out]; go_at_call 17; refine (MD.out _).mono ?_; rintro e w2 ⟨m, bb, R, S, W, g, gb, Pl, Sp, E, rfl, hkk, ⟨hm, hb, hR, hS, hWb, hg, hgb, hSp⟩, bne, M, HR, HS, HW, HSp, RM⟩; have k0s := hk0.size; have K0 := hk0.trans hkk))
  go_upto_region 10 with fail
  refine wp_named' (fun W1 hW1 => ?_)
  have HH : Has W1 w2.heap.size hands0.toArray 77 := by rw [hW1]; exact Has.congr (Has.new w2 _ _) rfl
  have K2 : Keeps w2 W1 := by rw [hW1]; ((repeat' (first | (with_reducible exact Keeps.refl _) | (with_reducible assumption) | (with_reducible refine Keeps.drewN ?_ _) | (with_reducible refine Keeps.drew ?_) | (with_reducible refine Keeps.alloc ?_ _) | (with_reducible refine Keeps.setCell ?_ ?_ _) | (with_reducible refine Keeps.trans ?_ (After.keeps _)) | (with_reducible refine Keeps.trans ?_ (by with_reducible assumption)) | go_size)); (first | done | fail))
  have V0 : HInv w W1 m bb R S W g gb Sp w2.heap.size n (0 : Nat) :=
    ⟨rtL n, 0, hands0, List.replicate 4 hloc0, List.replicate 4 hwk0, ⟨HR.keeps K2, HS.keeps K2, ⟨_, _, HW.keeps K2⟩, HSp.keeps K2, ⟨_, M.keeps K2⟩, RM.keeps K2, hgang0 _ _ _ _ _ _, HH, rfl, bne, K0.trans K2, Nat.le_trans k0s hm, Nat.le_trans k0s hb, Nat.le_trans k0s hg, Nat.le_trans k0s hgb, K0.size⟩, hties0, hall0 (rtL_ok n h1 h4).ok, by omega⟩
  clear hW1 HH K2 HR HS HW HSp M RM K0 hkk hm hb hR hS hWb hg hgb hSp MD
  generalize w2.heap.size = hbk at *
  go_wp2
  go_loopw [10] (fun iv wr => ∃ i : Nat, i ≤ zs.length ∧ iv = .int .i64 i ∧ HInv w wr m bb R S W g gb Sp hbk n i) (fun iv _ => zs.length - (intOf iv).toNat)
  case atStart => exact ⟨0, by omega, rfl, V0⟩
  case round =>
    obtain ⟨i, hi, rfl, V⟩ := hrel
    have hi1 : Hid (((i : Int) + 1) = ((i + 1 : Nat) : Int)) := Lib.hid (by omega)
    by_cases hlt : i < zs.length
    · obtain ⟨ab, off, rfl, hab, hc⟩ := HRd.out (by rintro rfl; simp at hlt)
      have c0 := hc i zs[i] (List.getElem?_eq_getElem hlt)
      have c1 := c0
      rw [← V.kp.cell hab] at c1
      have HC0 := Lib.hid c0
      clear hc c0
      generalize zs[i] = z at *
      have hlt' : (i : Int) < zs.length := by omega
      have hi0 : (0 : Int) ≤ (i : Int) := by omega
      have hi120 : (i : Int) ≤ 1000 := by omega
      have V0 := V
      go_upto_region 13 with fail
      go_region_held3 (fun y => y.cell? ⟨ab, off + i, none⟩ = some (.int .i64 z)) (first | exact c1)
        (first
          | (go_at_call 10; refine (number_exH _ _ _ (by omega) (by omega)).mono ?_; rintro e w' ⟨q9, rfl, hq9, rfl⟩)
          | (go_at_call 24; refine (goes_all (C := (i : Int)) _ (V.later (by ((repeat' (first | (with_reducible exact Keeps.refl _) | (with_reducible assumption) | (with_reducible refine Keeps.drewN ?_ _) | (with_reducible refine Keeps.drew ?_) | (with_reducible refine Keeps.alloc ?_ _) | (with_reducible refine Keeps.setCell ?_ ?_ _) | (with_reducible refine Keeps.trans ?_ (After.keeps _)) | (with_reducible refine Keeps.trans ?_ (by with_reducible assumption)) | go_size)); (first | done | fail)))) hi120 (by omega) h1 h4 (by omega) (by omega)).mono ?_; rintro e w7 ⟨rfl, V⟩; have c1 : w7.cell? ⟨ab, off + i, none⟩ = some (.int .i64 z) := (V.kp.cell hab).trans HC0.out; obtain ⟨l7, cc7, H7, cs7, ws7, h, ti, A, hcc⟩ := V; obtain ⟨x, M⟩ := h.mem; obtain ⟨Pl7, E7, hW7⟩ := h.hW; have RM := h.rmem; have K7 := h.keeps)
          | (go_at_call 25; refine (hsame_c M RM hW7).mono ?_; rintro e w8 ⟨rfl, hk8⟩; have h := h.later hk8; have c1 : w8.cell? ⟨ab, off + i, none⟩ = some (.int .i64 z) := (h.keeps.cell hab).trans HC0.out))
      go_wp2
      go_roundw
      case rel => exact ⟨i + 1, by omega, by go_num, by rw [← hi1.out]; exact ⟨_, _, _, _, _, h, ti, A, hcc⟩⟩
      case measure => simp [intOf]; omega
    · obtain rfl : i = zs.length := by omega
      have hnl : ¬ (zs.length : Int) < zs.length := by omega
      obtain ⟨l7, cc7, H7, cs7, ws7, h, ti, A, hcc⟩ := V
      obtain ⟨x, M⟩ := h.mem
      obtain ⟨Pl7, E7, hW7⟩ := h.hW
      have RM := h.rmem
      have hok := Lib.hid A.ok
      obtain ⟨L7, hL7⟩ : ∃ L7, stList 1 (4 + n) n l7 = L7 := ⟨_, rfl⟩
      have HL7 := Lib.hid hL7
      have hln : Hid (L7.length ≤ 1000000) := Lib.hid (by rw [← hL7]; have := hlf_len (lk := 4 + n) (n := n) (l := l7) n (topI n (l7.getD 1 0)); unfold stList; omega)
      clear hL7 ti A
      go_upto_region 15 with fail
      go_region_held3 (fun y => y.cell? ⟨W, 8, none⟩ = some (.pointer (some ⟨Sp, 0, none⟩))) (((repeat' (with_reducible apply And.intro)) <;> (apply Has.cellv; (focus ((repeat (first | (with_reducible assumption) | (with_reducible exact Has.new _ _ _) | (with_reducible exact Has.new1 _ _ _ _) | (with_reducible exact Has.new2 _ _ _ _ _) | (with_reducible refine Has.newAt ?_; (simp; done)) | (with_reducible apply Has.set) | (with_reducible apply Has.far; (case hn => first | assumption | (simp; done) | (intro e_; simp at e_; omega))) | (with_reducible apply Has.alloc) | (with_reducible apply Has.drewN) | (with_reducible apply Has.drew) | (with_reducible refine Has.keeps ?_ (by with_reducible assumption)))))); (first | (with_reducible assumption) | rfl | (simp; done) | fail))))
        (first
          | (go_at_call 18; refine (rsSpare_c (h.later (by ((repeat' (first | (with_reducible exact Keeps.refl _) | (with_reducible assumption) | (with_reducible refine Keeps.drewN ?_ _) | (with_reducible refine Keeps.drew ?_) | (with_reducible refine Keeps.alloc ?_ _) | (with_reducible refine Keeps.setCell ?_ ?_ _) | (with_reducible refine Keeps.trans ?_ (After.keeps _)) | (with_reducible refine Keeps.trans ?_ (by with_reducible assumption)) | go_size)); (first | done | fail)))).hR (h.later (by ((repeat' (first | (with_reducible exact Keeps.refl _) | (with_reducible assumption) | (with_reducible refine Keeps.drewN ?_ _) | (with_reducible refine Keeps.drew ?_) | (with_reducible refine Keeps.alloc ?_ _) | (with_reducible refine Keeps.setCell ?_ ?_ _) | (with_reducible refine Keeps.trans ?_ (After.keeps _)) | (with_reducible refine Keeps.trans ?_ (by with_reducible assumption)) | go_size)); (first | done | fail)))).hS (M.keeps (by ((repeat' (first | (with_reducible exact Keeps.refl _) | (with_reducible assumption) | (with_reducible refine Keeps.drewN ?_ _) | (with_reducible refine Keeps.drew ?_) | (with_reducible refine Keeps.alloc ?_ _) | (with_reducible refine Keeps.setCell ?_ ?_ _) | (with_reducible refine Keeps.trans ?_ (After.keeps _)) | (with_reducible refine Keeps.trans ?_ (by with_reducible assumption)) | go_size)); (first | done | fail)))) hok.out).mono ?_; rintro e w5 ⟨v5, rfl, hk5, R5⟩; rw [HL7.out] at R5; have h := (h.later (by ((repeat' (first | (with_reducible exact Keeps.refl _) | (with_reducible assumption) | (with_reducible refine Keeps.drewN ?_ _) | (with_reducible refine Keeps.drew ?_) | (with_reducible refine Keeps.alloc ?_ _) | (with_reducible refine Keeps.setCell ?_ ?_ _) | (with_reducible refine Keeps.trans ?_ (After.keeps _)) | (with_reducible refine Keeps.trans ?_ (by with_reducible assumption)) | go_size)); (first | done | fail)))).later hk5; have hW7 := (hW7.keeps (by ((repeat' (first | (with_reducible exact Keeps.refl _) | (with_reducible assumption) | (with_reducible refine Keeps.drewN ?_ _) | (with_reducible refine Keeps.drew ?_) | (with_reducible refine Keeps.alloc ?_ _) | (with_reducible refine Keeps.setCell ?_ ?_ _) | (with_reducible refine Keeps.trans ?_ (After.keeps _)) | (with_reducible refine Keeps.trans ?_ (by with_reducible assumption)) | go_size)); (first | done | fail)))).keeps hk5)
          | (go_at_call 27; refine (rlist_c h.hSp h.rmem hok.out).mono ?_; rintro e w6 ⟨v6, rfl, hk6, R6⟩; rw [HL7.out] at R6; have R5 := R5.keeps hk6; have h := h.later hk6; have hW7 := hW7.keeps hk6)
          | (go_at_call 26; refine (sameInts_yes _ _ L7 _ R5.reads R6.reads hln.out).mono ?_; rintro e w8 ⟨rfl, hk8⟩; have h := h.later hk8; have hW7 := hW7.keeps hk8))
      go_wp2
      go_ret
      exact ⟨rfl, h.keeps⟩
theorem rootsPlay_c (nn : Int) (v : Value) (zs : List Int) (w : World) (hr : Reads .i64 w v zs) : Calls Tryz.prog 5 #[.int .i64 nn, v] w fun e w' => e = .returned (.bool true) ∧ Keeps w w' := by
  by_cases hl : zs.length ≤ 120
  · have b1 := mod_bd nn 4 (by omega)
    obtain ⟨k, hk⟩ := Int.eq_ofNat_of_zero_le (show 0 ≤ 1 + nn % 4 by omega)
    exact rootsPlay_core nn k v zs w hr hl hk (by omega) (by omega)
  · obtain ⟨a, cap, rfl, hrr⟩ := hr
    clear hrr
    go_enter Tryz.func5, Tryz.ntmps5
    go_wp2_with (go_at_call 6; refine (rootsFirst_c _).mono ?_; rintro e w' ⟨rfl, hk0⟩)
    go_ret
    exact ⟨rfl, hk0⟩
end Go.Proofs.YtaecapjicphdkaaGreat
