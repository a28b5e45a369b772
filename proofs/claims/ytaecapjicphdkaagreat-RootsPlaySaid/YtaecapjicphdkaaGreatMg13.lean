/- The makers of Push and Pop, Got, walked. -/
import Derived.Test.YtaecapjicphdkaaGreatMg12
namespace Go.Proofs.YtaecapjicphdkaaGreat
set_option linter.unusedVariables false
set_option linter.unusedSimpArgs false
open Go Go.RowKit
set_option maxRecDepth 100000
attribute [local go_sem ↓] Go.wp_at_zero Go.wp_at_succ
set_option maxHeartbeats 1000000

theorem Row.reads {B : Nat} {w : World} {v : Value} {zs : List Int} (h : Row B 3 w v (ivals zs)) : Reads .i64 w v zs := by
  obtain ⟨a, cap, rfl, hr⟩ := h.form
  refine ⟨a, cap, by simp, fun hz => ?_⟩
  obtain ⟨b, rfl, hB, hb, hc⟩ := hr (by simpa using hz)
  exact ⟨b, 0, rfl, hb, fun i z hi => by rw [Nat.zero_add]; exact hc i _ (by simp [hi])⟩
section
variable {w : World} {S m b N hd lk n B : Nat} {l : List Int} {cc : Int} {x : Acc} {g : Nat} {v : Value} {s : Po} {H K : Int}
theorem mkPop_c (most q : Int) (hq : (8 < most ∧ q = 8) ∨ (1 ≤ most ∧ most ≤ 8 ∧ q = most) ∨ (most < 1 ∧ q = 1)) :
    Calls Tryz.prog 69 #[.pointer (some ⟨S, 0, none⟩), .int .i64 most] w fun e w' => ∃ g, e = .returned (.pointer (some ⟨g, 0, none⟩)) ∧ Keeps w w' ∧ w.heap.size ≤ g ∧ PoRep w' B g S (.slice none 0 0) ⟨0, 0, q, 0, 0, []⟩ := by
  rcases hq with ⟨h1, rfl⟩ | ⟨h1, h2, rfl⟩ | ⟨h1, rfl⟩
  · have h3 : 1 ≤ most := by omega
    go_enter Tryz.func69, Tryz.ntmps69
    go_wp2
    go_ret
    exact ⟨w.heap.size, rfl, by ((repeat' (first | (with_reducible exact Keeps.refl _) | (with_reducible assumption) | (with_reducible refine Keeps.drewN ?_ _) | (with_reducible refine Keeps.drew ?_) | (with_reducible refine Keeps.alloc ?_ _) | (with_reducible refine Keeps.setCell ?_ ?_ _) | (with_reducible refine Keeps.trans ?_ (After.keeps _)) | (with_reducible refine Keeps.trans ?_ (by with_reducible assumption)) | go_size)); (first | done | fail)), Nat.le_refl _, ⟨by (apply Has.congr; (focus ((repeat (first | (with_reducible assumption) | (with_reducible exact Has.new _ _ _) | (with_reducible exact Has.new1 _ _ _ _) | (with_reducible exact Has.new2 _ _ _ _ _) | (with_reducible refine Has.newAt ?_; (simp; done)) | (with_reducible apply Has.set) | (with_reducible apply Has.far; (case hn => first | assumption | (simp; done) | (intro e_; simp at e_; omega))) | (with_reducible apply Has.alloc) | (with_reducible apply Has.drewN) | (with_reducible apply Has.drew) | (with_reducible refine Has.keeps ?_ (by with_reducible assumption)))))); (first | rfl | (simp; done))), Row.nil _ _ _⟩⟩
  · go_enter Tryz.func69, Tryz.ntmps69
    go_wp2
    all_goals go_ret
    all_goals exact ⟨w.heap.size, rfl, by ((repeat' (first | (with_reducible exact Keeps.refl _) | (with_reducible assumption) | (with_reducible refine Keeps.drewN ?_ _) | (with_reducible refine Keeps.drew ?_) | (with_reducible refine Keeps.alloc ?_ _) | (with_reducible refine Keeps.setCell ?_ ?_ _) | (with_reducible refine Keeps.trans ?_ (After.keeps _)) | (with_reducible refine Keeps.trans ?_ (by with_reducible assumption)) | go_size)); (first | done | fail)), Nat.le_refl _, ⟨by (apply Has.congr; (focus ((repeat (first | (with_reducible assumption) | (with_reducible exact Has.new _ _ _) | (with_reducible exact Has.new1 _ _ _ _) | (with_reducible exact Has.new2 _ _ _ _ _) | (with_reducible refine Has.newAt ?_; (simp; done)) | (with_reducible apply Has.set) | (with_reducible apply Has.far; (case hn => first | assumption | (simp; done) | (intro e_; simp at e_; omega))) | (with_reducible apply Has.alloc) | (with_reducible apply Has.drewN) | (with_reducible apply Has.drew) | (with_reducible refine Has.keeps ?_ (by with_reducible assumption)))))); (first | rfl | (simp; done))), Row.nil _ _ _⟩⟩
  · go_enter Tryz.func69, Tryz.ntmps69
    go_wp2
    go_ret
    exact ⟨w.heap.size, rfl, by ((repeat' (first | (with_reducible exact Keeps.refl _) | (with_reducible assumption) | (with_reducible refine Keeps.drewN ?_ _) | (with_reducible refine Keeps.drew ?_) | (with_reducible refine Keeps.alloc ?_ _) | (with_reducible refine Keeps.setCell ?_ ?_ _) | (with_reducible refine Keeps.trans ?_ (After.keeps _)) | (with_reducible refine Keeps.trans ?_ (by with_reducible assumption)) | go_size)); (first | done | fail)), Nat.le_refl _, ⟨by (apply Has.congr; (focus ((repeat (first | (with_reducible assumption) | (with_reducible exact Has.new _ _ _) | (with_reducible exact Has.new1 _ _ _ _) | (with_reducible exact Has.new2 _ _ _ _ _) | (with_reducible refine Has.newAt ?_; (simp; done)) | (with_reducible apply Has.set) | (with_reducible apply Has.far; (case hn => first | assumption | (simp; done) | (intro e_; simp at e_; omega))) | (with_reducible apply Has.alloc) | (with_reducible apply Has.drewN) | (with_reducible apply Has.drew) | (with_reducible refine Has.keeps ?_ (by with_reducible assumption)))))); (first | rfl | (simp; done))), Row.nil _ _ _⟩⟩
theorem got_c (hg : PoRep w B g S v s) (h3 : 3 ≤ s.ph) (hl : s.got.length ≤ 1000000) :
    Calls Tryz.prog 116 #[.pointer (some ⟨g, 0, none⟩)] w fun e w' => ∃ v', e = .returned v' ∧ Keeps w w' ∧ Row w.heap.size 3 w' v' (ivals s.got) := by
  have hP := hg.has
  have HD := Lib.hid (decide_eq_true h3)
  have hR := hg.row.reads
  obtain ⟨ad, cap, hv, _⟩ := id hR
  subst hv
  have HR := Lib.hid hR
  clear hR
  have FX_ := (hP).facts; simp only [blockFacts, listFacts, cellsAt, Nat.reduceAdd, and_true, true_and, and_assoc] at FX_
  go_enter Tryz.func116, Tryz.ntmps116
  go_wp2_with (first
    | (go_at_call 72; refine (poDone_c hg).mono ?_; rintro e w' ⟨rfl, rfl⟩; rw [HD.out])
    | (go_at_call 82; refine (clone_c _ _ _ _ HR.out (Nat.le_refl _) hl).mono ?_; rintro e w' ⟨v', rfl, hk, R⟩))
  go_ret
  exact ⟨v', rfl, hk, R⟩
theorem got_no (hg : PoRep w B g S v s) (h3 : s.ph < 3) :
    Calls Tryz.prog 116 #[.pointer (some ⟨g, 0, none⟩)] w fun e w' => e = .returned (.slice none 0 0) ∧ w = w' := by
  have HD := Lib.hid (decide_eq_false (show ¬ 3 ≤ s.ph by omega))
  go_enter Tryz.func116, Tryz.ntmps116
  go_wp2_with (go_at_call 72; refine (poDone_c hg).mono ?_; rintro e w' ⟨rfl, rfl⟩; rw [HD.out])
  go_ret
  exact ⟨rfl, rfl⟩
theorem reads_take {a : Option Addr} {cap i : Nat} {zs : List Int} (h : Reads .i64 w (.slice a zs.length cap) zs) (hi : i ≤ zs.length) : Reads .i64 w (.slice a i cap) (zs.take i) := by
  obtain ⟨a', cap', hv, hr⟩ := h
  cases hv
  refine ⟨a, cap, by simp [Nat.min_eq_left hi], fun hz => ?_⟩
  obtain ⟨b, off, ha, hb, hc⟩ := hr (by rintro rfl; simp at hz)
  refine ⟨b, off, ha, hb, fun j z hj => ?_⟩
  rw [List.getElem?_take] at hj
  split at hj
  · exact hc j z hj
  · cases hj
/-- What Push says of its items: they are all there, each once. -/
def itemsB (n : Nat) (zs : List Int) : Prop := (∀ z ∈ zs, 0 ≤ z ∧ z < n) ∧ zs.Nodup
/-- What comes next of a Push of so many. -/
def puPh (k : Nat) : Nat := if k = 0 then 4 else if k = 1 then 1 else 0
theorem mkPush_c (zs : List Int) (a : Option Addr) (cap : Nat) (hr : Reads .i64 w (.slice a zs.length cap) zs) (hcap : zs.length ≤ cap) (hS : Has w S (stackOf m H K n) 143) (hz : itemsB n zs) (hl : zs.length ≤ 1000000) :
    Calls Tryz.prog 44 #[.pointer (some ⟨S, 0, none⟩), .slice a zs.length cap] w fun e w' => ∃ g v', e = .returned (.tuple #[.pointer (some ⟨g, 0, none⟩), .int .i64 0]) ∧ Keeps w w' ∧ w.heap.size ≤ g ∧ PuRep w' w.heap.size g S v' ⟨puPh zs.length, 0, zs, 0, 0⟩ := by
  have hr0 := hr
  obtain ⟨a2, cap2, hv2, hrr⟩ := hr
  cases hv2
  have HR := Lib.hid hrr
  have HR0 := Lib.hid hr0
  obtain ⟨hz1, hz2⟩ := hz
  clear hrr hr0
  have FX_ := (hS).facts; simp only [blockFacts, listFacts, cellsAt, Nat.reduceAdd, and_true, true_and, and_assoc, stackOf] at FX_
  go_enter Tryz.func44, Tryz.ntmps44
  go_wp2
  go_loop [11] (fun i => ∃ k : Nat, k ≤ zs.length ∧ i = .int .i64 k) (fun i => zs.length - (intOf i).toNat)
  case atStart => exact ⟨0, by omega, rfl⟩
  case round =>
    obtain ⟨k, hk, rfl⟩ := hrel
    by_cases hlt : k < zs.length
    · obtain ⟨rb, off, rfl, hb, hc⟩ := HR.out (by rintro rfl; simp at hlt)
      have hzk := hz1 _ (List.getElem_mem hlt)
      have hno : ¬ zs[k] ∈ zs.take k := by
        intro hm
        have h := hz2
        rw [← List.take_append_drop k zs, List.nodup_append] at h
        exact h.2.2 _ hm _ (by rw [List.drop_eq_getElem_cons hlt]; exact List.mem_cons_self ..) rfl
      have c1 := hc k zs[k] (List.getElem?_eq_getElem hlt)
      clear hc
      generalize zs[k] = z at *
      obtain ⟨hz3, hz4⟩ := hzk
      have HT := Lib.hid (reads_take HR0.out hk)
      have HNo := Lib.hid (decide_eq_false hno)
      clear hno hz1 hz2
      have cp : k ≤ cap := by omega
      go_wp2_with (go_at_call 81; refine (contains_c _ _ _ _ HT.out (by simp; omega)).mono ?_; rintro e w' ⟨rfl, rfl⟩; rw [HNo.out])
      go_round
      case rel => exact ⟨k + 1, by omega, by go_num⟩
      case measure => simp [intOf]; omega
    · obtain rfl : k = zs.length := by omega
      have pt : puPh zs.length = 4 ∧ zs.length = 0 ∨ puPh zs.length = 1 ∧ zs.length = 1 ∨ puPh zs.length = 0 ∧ 2 ≤ zs.length := by
        unfold puPh
        split
        · left; exact ⟨rfl, by assumption⟩
        · split
          · right; left; exact ⟨rfl, by assumption⟩
          · right; right; exact ⟨rfl, by omega⟩
      have HLn : Hid (zs.length ≤ 1000000) := Lib.hid hl
      have HR1 := HR0
      rcases pt with ⟨hp, hn⟩ | ⟨hp, hn⟩ | ⟨hp, hn⟩
      · have q0 : ((zs.length : Int) == 0) = true := by simp [hn]
        have HNn := Lib.hid hn
        clear hz1 hz2 hlt hk hn
        go_wp2_with (first
          | (go_at_call 82; refine (clone_c _ _ _ _ HR1.out (Nat.le_refl _) HLn.out).mono ?_; rintro e w' ⟨v', rfl, hk, R⟩; obtain ⟨a3, cap3, hv3, _⟩ := R.reads; subst hv3)
          | (go_at_call 41; go_in))
        go_ret2
        refine ⟨w'.heap.size, .slice a3 zs.length cap3, rfl, by ((repeat' (first | (with_reducible exact Keeps.refl _) | (with_reducible assumption) | (with_reducible refine Keeps.drewN ?_ _) | (with_reducible refine Keeps.drew ?_) | (with_reducible refine Keeps.alloc ?_ _) | (with_reducible refine Keeps.setCell ?_ ?_ _) | (with_reducible refine Keeps.trans ?_ (After.keeps _)) | (with_reducible refine Keeps.trans ?_ (by with_reducible assumption)) | go_size)); (first | done | fail)), hk.size, ?_⟩
        rw [hp]
        exact ⟨by (apply Has.congr; (focus ((repeat (first | (with_reducible assumption) | (with_reducible exact Has.new _ _ _) | (with_reducible exact Has.new1 _ _ _ _) | (with_reducible exact Has.new2 _ _ _ _ _) | (with_reducible refine Has.newAt ?_; (simp; done)) | (with_reducible apply Has.set) | (with_reducible apply Has.far; (case hn => first | assumption | (simp; done) | (intro e_; simp at e_; omega))) | (with_reducible apply Has.alloc) | (with_reducible apply Has.drewN) | (with_reducible apply Has.drew) | (with_reducible refine Has.keeps ?_ (by with_reducible assumption)))))); (first | rfl | (simp; done))), R.alloc _⟩
      · have q0 : ((zs.length : Int) == 0) = false := by simp [hn]
        have q1 : ((zs.length : Int) == 1) = true := by simp [hn]
        have HNn := Lib.hid hn
        clear hz1 hz2 hlt hk hn
        go_wp2_with (first
          | (go_at_call 82; refine (clone_c _ _ _ _ HR1.out (Nat.le_refl _) HLn.out).mono ?_; rintro e w' ⟨v', rfl, hk, R⟩; obtain ⟨a3, cap3, hv3, _⟩ := R.reads; subst hv3)
          | (go_at_call 41; go_in))
        go_ret2
        refine ⟨w'.heap.size, .slice a3 zs.length cap3, rfl, by ((repeat' (first | (with_reducible exact Keeps.refl _) | (with_reducible assumption) | (with_reducible refine Keeps.drewN ?_ _) | (with_reducible refine Keeps.drew ?_) | (with_reducible refine Keeps.alloc ?_ _) | (with_reducible refine Keeps.setCell ?_ ?_ _) | (with_reducible refine Keeps.trans ?_ (After.keeps _)) | (with_reducible refine Keeps.trans ?_ (by with_reducible assumption)) | go_size)); (first | done | fail)), hk.size, ?_⟩
        rw [hp]
        exact ⟨by (apply Has.congr; (focus ((repeat (first | (with_reducible assumption) | (with_reducible exact Has.new _ _ _) | (with_reducible exact Has.new1 _ _ _ _) | (with_reducible exact Has.new2 _ _ _ _ _) | (with_reducible refine Has.newAt ?_; (simp; done)) | (with_reducible apply Has.set) | (with_reducible apply Has.far; (case hn => first | assumption | (simp; done) | (intro e_; simp at e_; omega))) | (with_reducible apply Has.alloc) | (with_reducible apply Has.drewN) | (with_reducible apply Has.drew) | (with_reducible refine Has.keeps ?_ (by with_reducible assumption)))))); (first | rfl | (simp; done))), R.alloc _⟩
      · have q0 : ((zs.length : Int) == 0) = false := by rw [beq_eq_false_iff_ne]; omega
        have q1 : ((zs.length : Int) == 1) = false := by rw [beq_eq_false_iff_ne]; omega
        have HNn := Lib.hid hn
        clear hz1 hz2 hlt hk hn
        go_wp2_with (first
          | (go_at_call 82; refine (clone_c _ _ _ _ HR1.out (Nat.le_refl _) HLn.out).mono ?_; rintro e w' ⟨v', rfl, hk, R⟩; obtain ⟨a3, cap3, hv3, _⟩ := R.reads; subst hv3)
          | (go_at_call 41; go_in))
        go_ret2
        refine ⟨w'.heap.size, .slice a3 zs.length cap3, rfl, by ((repeat' (first | (with_reducible exact Keeps.refl _) | (with_reducible assumption) | (with_reducible refine Keeps.drewN ?_ _) | (with_reducible refine Keeps.drew ?_) | (with_reducible refine Keeps.alloc ?_ _) | (with_reducible refine Keeps.setCell ?_ ?_ _) | (with_reducible refine Keeps.trans ?_ (After.keeps _)) | (with_reducible refine Keeps.trans ?_ (by with_reducible assumption)) | go_size)); (first | done | fail)), hk.size, ?_⟩
        rw [hp]
        exact ⟨by (apply Has.congr; (focus ((repeat (first | (with_reducible assumption) | (with_reducible exact Has.new _ _ _) | (with_reducible exact Has.new1 _ _ _ _) | (with_reducible exact Has.new2 _ _ _ _ _) | (with_reducible refine Has.newAt ?_; (simp; done)) | (with_reducible apply Has.set) | (with_reducible apply Has.far; (case hn => first | assumption | (simp; done) | (intro e_; simp at e_; omega))) | (with_reducible apply Has.alloc) | (with_reducible apply Has.drewN) | (with_reducible apply Has.drew) | (with_reducible refine Has.keeps ?_ (by with_reducible assumption)))))); (first | rfl | (simp; done))), R.alloc _⟩
end
end Go.Proofs.YtaecapjicphdkaaGreat

/- Fill, List, a Push that is refused, walked. -/
namespace Go.Proofs.YtaecapjicphdkaaGreat
set_option linter.unusedVariables false
set_option linter.unusedSimpArgs false
open Go Go.RowKit
set_option maxRecDepth 100000
attribute [local go_sem ↓] Go.wp_at_zero Go.wp_at_succ
set_option maxHeartbeats 1000000

section
variable {w : World} {S m b N hd lk n B : Nat} {l : List Int} {cc : Int} {x : Acc} {g : Nat} {v : Value} {H K : Int}
theorem mkPush_no (zs : List Int) (a : Option Addr) (cap : Nat) (hr : Reads .i64 w (.slice a zs.length cap) zs) (hcap : zs.length ≤ cap) (hS : Has w S (stackOf m H K n) 143) (hz : ¬ itemsB n zs) (hl : zs.length ≤ 1000000) :
    Calls Tryz.prog 44 #[.pointer (some ⟨S, 0, none⟩), .slice a zs.length cap] w fun e w' => e = .returned (.tuple #[.pointer none, .int .i64 1]) ∧ w = w' := by
  have hr0 := hr
  obtain ⟨a2, cap2, hv2, hrr⟩ := hr
  cases hv2
  have HR := Lib.hid hrr
  have HR0 := Lib.hid hr0
  have HZ := Lib.hid hz
  clear hrr hr0 hz
  have FX_ := (hS).facts; simp only [blockFacts, listFacts, cellsAt, Nat.reduceAdd, and_true, true_and, and_assoc, stackOf] at FX_
  go_enter Tryz.func44, Tryz.ntmps44
  go_wp2
  go_loop [11] (fun i => ∃ k : Nat, k ≤ zs.length ∧ i = .int .i64 k ∧ Hid (itemsB n (zs.take k))) (fun i => zs.length - (intOf i).toNat)
  case atStart => exact ⟨0, by omega, rfl, Lib.hid ⟨by simp, by simp⟩⟩
  case round =>
    obtain ⟨k, hk, rfl, hgood⟩ := hrel
    by_cases hlt : k < zs.length
    · obtain ⟨rb, off, rfl, hb, hc⟩ := HR.out (by rintro rfl; simp at hlt)
      have c1 := hc k zs[k] (List.getElem?_eq_getElem hlt)
      have HT := Lib.hid (reads_take HR0.out hk)
      have cp : k ≤ cap := by omega
      have HN : Hid (0 ≤ zs[k] → zs[k] < (n : Int) → ¬ zs[k] ∈ zs.take k → itemsB n (zs.take (k + 1))) := Lib.hid (fun h1 h2 h3 => by
        obtain ⟨g1, g2⟩ := hgood.out
        rw [← List.take_append_getElem hlt]
        refine ⟨fun z hz => ?_, ?_⟩
        · rcases List.mem_append.1 hz with hz | hz
          · exact g1 z hz
          · simp at hz; subst hz; exact ⟨h1, h2⟩
        · rw [List.nodup_append]
          exact ⟨g2, by simp, fun p hp q hq => by simp at hq; subst hq; rintro rfl; exact h3 hp⟩)
      clear hc
      generalize zs[k] = z at *
      by_cases z0 : z < 0
      · go_wp2
        go_ret2
        exact ⟨rfl, rfl⟩
      by_cases z1 : (n : Int) ≤ z
      · go_wp2
        go_ret2
        exact ⟨rfl, rfl⟩
      by_cases hm : z ∈ zs.take k
      · have HM := Lib.hid (decide_eq_true hm)
        clear hm
        go_wp2_with (go_at_call 81; refine (contains_c _ _ _ _ HT.out (by simp; omega)).mono ?_; rintro e w' ⟨rfl, rfl⟩; rw [HM.out])
        go_ret2
        exact ⟨rfl, rfl⟩
      · have HM := Lib.hid (decide_eq_false hm)
        have HM2 := Lib.hid hm
        clear hm
        go_wp2_with (go_at_call 81; refine (contains_c _ _ _ _ HT.out (by simp; omega)).mono ?_; rintro e w' ⟨rfl, rfl⟩; rw [HM.out])
        go_round
        case rel => exact ⟨k + 1, by omega, by go_num, Lib.hid (HN.out (by omega) (by omega) HM2.out)⟩
        case measure => simp [intOf]; omega
    · obtain rfl : k = zs.length := by omega
      have h := hgood.out
      rw [List.take_length] at h
      exact absurd h HZ.out
/-- What Fill lays. -/
def fillTo (l : List Int) (lk : Nat) : Nat → List Int
  | 0 => l
  | k + 1 => (fillTo l lk k).set (lk + k) ((k : Int) + 2)
theorem fillTo_length (l : List Int) (lk : Nat) : ∀ k, (fillTo l lk k).length = l.length
  | 0 => rfl
  | k + 1 => by simp [fillTo, fillTo_length l lk k]
def stFill (hd lk n : Nat) (l : List Int) : List Int := ((fillTo l lk n).set (lk + n - 1) 0).set hd 1
theorem headI_00 : headI 0 0 = 1 := by decide
theorem fill_c (hS : Has w S (stackOf m hd lk n) 143) (M : Mem w m b N l cc x) (h1 : 1 ≤ n) (h2 : n ≤ 4096) (h3 : lk + n ≤ N) (h4 : hd < N) :
    Calls Tryz.prog 87 #[.pointer (some ⟨S, 0, none⟩)] w fun e w' => e = .returned (.tuple #[]) ∧ Upd [m, b] w w' ∧ Mem w' m b N (stFill hd lk n l) cc x := by
  have hs := M.small
  have hlen := M.len
  have nSm : S ∉ [m, b] := by simp only [List.mem_cons, List.not_mem_nil, or_false, not_or]; exact ⟨hS.ne M.hg (by decide), hS.ne M.hb (by decide)⟩
  have FX_ := (hS).facts; simp only [blockFacts, listFacts, cellsAt, Nat.reduceAdd, and_true, true_and, and_assoc, stackOf] at FX_
  go_enter Tryz.func87, Tryz.ntmps87
  go_wp2
  go_loopw [9] (fun i wr => ∃ k : Nat, k ≤ n ∧ i = .int .i64 k ∧ Upd [m, b] w wr ∧ Mem wr m b N (fillTo l lk k) cc x ∧ Has wr S (stackOf m hd lk n) 143) (fun i _ => n - (intOf i).toNat)
  case atStart => exact ⟨0, by omega, rfl, Upd.refl _ _, M, hS⟩
  case round =>
    obtain ⟨k, hk, rfl, hu, M, HS⟩ := hrel
    by_cases hlt : k < n
    · have pw := wrapI_ok ((lk : Int) + k) (by omega) (by omega)
      have pw2 := wrapI_ok ((k : Int) + 2) (by omega) (by omega)
      have pw3 := wrapW_ok ((k : Int) + 2) (by omega) (by omega)
      have HO : Hid ((fillTo l lk k)[lk + k]? = some ((fillTo l lk k).getD (lk + k) 0)) := Lib.hid (getD_some (by rw [fillTo_length]; omega))
      have HQ : Hid ((lk : Int) + k = ((lk + k : Nat) : Int)) := Lib.hid (by omega)
      have FX_ := (HS).facts; simp only [blockFacts, listFacts, cellsAt, Nat.reduceAdd, and_true, true_and, and_assoc, stackOf] at FX_
      go_wp2
      go_region_held3 (fun y => y.cell? ⟨S, 0, none⟩ = some (.pointer (some ⟨m, 0, none⟩)) ∧ y.cell? ⟨S, 2, none⟩ = some (.int .i64 lk)) (((repeat' (with_reducible apply And.intro)) <;> (apply Has.cellv; (focus ((repeat (first | (with_reducible assumption) | (with_reducible exact Has.new _ _ _) | (with_reducible exact Has.new1 _ _ _ _) | (with_reducible exact Has.new2 _ _ _ _ _) | (with_reducible refine Has.newAt ?_; (simp; done)) | (with_reducible apply Has.set) | (with_reducible apply Has.far; (case hn => first | assumption | (simp; done) | (intro e_; simp at e_; omega))) | (with_reducible apply Has.alloc) | (with_reducible apply Has.drewN) | (with_reducible apply Has.drew) | (with_reducible refine Has.keeps ?_ (by with_reducible assumption)))))); (first | (with_reducible assumption) | rfl | (simp; done) | fail))))
        ((go_at_call 88; refine (mlay_at (M.keeps (by ((repeat' (first | (with_reducible exact Keeps.refl _) | (with_reducible assumption) | (with_reducible refine Keeps.drewN ?_ _) | (with_reducible refine Keeps.drew ?_) | (with_reducible refine Keeps.alloc ?_ _) | (with_reducible refine Keeps.setCell ?_ ?_ _) | (with_reducible refine Keeps.trans ?_ (After.keeps _)) | (with_reducible refine Keeps.trans ?_ (by with_reducible assumption)) | go_size)); (first | done | fail)))) (lk + k) _ _ HQ.out HO.out).mono ?_; rintro e w' ⟨rfl, hu2, M2⟩; have HS := (HS.keeps (by ((repeat' (first | (with_reducible exact Keeps.refl _) | (with_reducible assumption) | (with_reducible refine Keeps.drewN ?_ _) | (with_reducible refine Keeps.drew ?_) | (with_reducible refine Keeps.alloc ?_ _) | (with_reducible refine Keeps.setCell ?_ ?_ _) | (with_reducible refine Keeps.trans ?_ (After.keeps _)) | (with_reducible refine Keeps.trans ?_ (by with_reducible assumption)) | go_size)); (first | done | fail)))).upd hu2 nSm))
      go_wp2
      go_roundw
      case rel => exact ⟨k + 1, by omega, by go_num, hu.drew.trans hu2, M2, HS⟩
      case measure => simp [intOf]; omega
    · obtain rfl : k = n := by omega
      have pw := wrapI_ok ((lk : Int) + k) (by omega) (by omega)
      have pw2 := wrapI_ok ((lk : Int) + k - 1) (by omega) (by omega)
      have hL := fillTo_length l lk k
      have HO : Hid ((fillTo l lk k)[lk + k - 1]? = some ((fillTo l lk k).getD (lk + k - 1) 0)) := Lib.hid (getD_some (by omega))
      have HQ : Hid ((lk : Int) + k - 1 = ((lk + k - 1 : Nat) : Int)) := Lib.hid (by omega)
      have HO2 : Hid (((fillTo l lk k).set (lk + k - 1) 0)[hd]? = some (((fillTo l lk k).set (lk + k - 1) 0).getD hd 0)) := Lib.hid (getD_some (by simp; omega))
      have FX_ := (HS).facts; simp only [blockFacts, listFacts, cellsAt, Nat.reduceAdd, and_true, true_and, and_assoc, stackOf] at FX_
      go_wp2
      go_region_held3 (fun y => (y.cell? ⟨S, 0, none⟩ = some (.pointer (some ⟨m, 0, none⟩)) ∧ y.cell? ⟨S, 2, none⟩ = some (.int .i64 lk)) ∧ y.cell? ⟨S, 3, none⟩ = some (.int .i64 k)) (((repeat' (with_reducible apply And.intro)) <;> (apply Has.cellv; (focus ((repeat (first | (with_reducible assumption) | (with_reducible exact Has.new _ _ _) | (with_reducible exact Has.new1 _ _ _ _) | (with_reducible exact Has.new2 _ _ _ _ _) | (with_reducible refine Has.newAt ?_; (simp; done)) | (with_reducible apply Has.set) | (with_reducible apply Has.far; (case hn => first | assumption | (simp; done) | (intro e_; simp at e_; omega))) | (with_reducible apply Has.alloc) | (with_reducible apply Has.drewN) | (with_reducible apply Has.drew) | (with_reducible refine Has.keeps ?_ (by with_reducible assumption)))))); (first | (with_reducible assumption) | rfl | (simp; done) | fail))))
        ((go_at_call 88; refine (mlay_at (M.keeps (by ((repeat' (first | (with_reducible exact Keeps.refl _) | (with_reducible assumption) | (with_reducible refine Keeps.drewN ?_ _) | (with_reducible refine Keeps.drew ?_) | (with_reducible refine Keeps.alloc ?_ _) | (with_reducible refine Keeps.setCell ?_ ?_ _) | (with_reducible refine Keeps.trans ?_ (After.keeps _)) | (with_reducible refine Keeps.trans ?_ (by with_reducible assumption)) | go_size)); (first | done | fail)))) (lk + k - 1) _ _ HQ.out HO.out).mono ?_; rintro e w' ⟨rfl, hu2, M2⟩; have HS := (HS.keeps (by ((repeat' (first | (with_reducible exact Keeps.refl _) | (with_reducible assumption) | (with_reducible refine Keeps.drewN ?_ _) | (with_reducible refine Keeps.drew ?_) | (with_reducible refine Keeps.alloc ?_ _) | (with_reducible refine Keeps.setCell ?_ ?_ _) | (with_reducible refine Keeps.trans ?_ (After.keeps _)) | (with_reducible refine Keeps.trans ?_ (by with_reducible assumption)) | go_size)); (first | done | fail)))).upd hu2 nSm))
      have hu3 := hu.drew.trans hu2
      go_wp2_with (go_at_call 127; refine (putHead_c _ _ _).mono ?_; rintro e w' ⟨rfl, hk5⟩; rw [headI_00]; have HS := HS.keeps hk5; have M2 := M2.keeps hk5; have hu3 := hu3.trans (Upd.of_keeps hk5))
      go_region_held3 (fun y => y.cell? ⟨S, 0, none⟩ = some (.pointer (some ⟨m, 0, none⟩)) ∧ y.cell? ⟨S, 1, none⟩ = some (.int .i64 hd)) (((repeat' (with_reducible apply And.intro)) <;> (apply Has.cellv; (focus ((repeat (first | (with_reducible assumption) | (with_reducible exact Has.new _ _ _) | (with_reducible exact Has.new1 _ _ _ _) | (with_reducible exact Has.new2 _ _ _ _ _) | (with_reducible refine Has.newAt ?_; (simp; done)) | (with_reducible apply Has.set) | (with_reducible apply Has.far; (case hn => first | assumption | (simp; done) | (intro e_; simp at e_; omega))) | (with_reducible apply Has.alloc) | (with_reducible apply Has.drewN) | (with_reducible apply Has.drew) | (with_reducible refine Has.keeps ?_ (by with_reducible assumption)))))); (first | (with_reducible assumption) | rfl | (simp; done) | fail))))
        ((go_at_call 88; refine (mlay_in (M2.keeps (by ((repeat' (first | (with_reducible exact Keeps.refl _) | (with_reducible assumption) | (with_reducible refine Keeps.drewN ?_ _) | (with_reducible refine Keeps.drew ?_) | (with_reducible refine Keeps.alloc ?_ _) | (with_reducible refine Keeps.setCell ?_ ?_ _) | (with_reducible refine Keeps.trans ?_ (After.keeps _)) | (with_reducible refine Keeps.trans ?_ (by with_reducible assumption)) | go_size)); (first | done | fail)))) hd _ HO2.out).mono ?_; rintro e w' ⟨rfl, hu4, M3⟩; have HS := (HS.keeps (by ((repeat' (first | (with_reducible exact Keeps.refl _) | (with_reducible assumption) | (with_reducible refine Keeps.drewN ?_ _) | (with_reducible refine Keeps.drew ?_) | (with_reducible refine Keeps.alloc ?_ _) | (with_reducible refine Keeps.setCell ?_ ?_ _) | (with_reducible refine Keeps.trans ?_ (After.keeps _)) | (with_reducible refine Keeps.trans ?_ (by with_reducible assumption)) | go_size)); (first | done | fail)))).upd hu4 nSm))
      go_end0
      exact ⟨rfl, hu3.drew.trans hu4, M3⟩
end
end Go.Proofs.YtaecapjicphdkaaGreat
