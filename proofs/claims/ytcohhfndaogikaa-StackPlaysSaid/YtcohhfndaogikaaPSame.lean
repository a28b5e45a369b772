/- same of layer 6, walked. -/
import Derived.Test.YtcohhfndaogikaaPlaysE
import Derived.Deep.QuietTactic
import Derived.BigQuiet
namespace Go.Proofs.Ytcohhfndaogikaa
set_option linter.unusedVariables false
set_option linter.unusedSimpArgs false
open Go Go.RowKit
set_option maxRecDepth 100000
set_option maxHeartbeats 1000000

section
variable {w : World} {m b g gb N : Nat} {l : List Int} {cc : Int} {x : Acc}
theorem psame_c (M : Mem w m b N l cc x) (RM : RMem w g gb N l cc) :
    Calls Try.prog 55 #[.pointer (some ⟨m, 0, none⟩), .pointer (some ⟨g, 0, none⟩)] w fun e w' => e = .returned (.bool true) ∧ Keeps w w' := by
  have hs := M.small
  have hlen := M.len
  have HX := Lib.hid M
  have HY := Lib.hid RM
  clear M RM
  go_enter Try.func55, Try.ntmps55
  go_wp2
  go_loopw [5] (fun iv wr => ∃ i : Nat, i ≤ N ∧ iv = .int .i64 i ∧ Mem wr m b N l cc x ∧ RMem wr g gb N l cc ∧ Keeps w wr) (fun iv _ => N - (intOf iv).toNat)
  case atStart => exact ⟨0, by omega, rfl, HX.out, HY.out, Keeps.refl _⟩
  case round =>
    obtain ⟨i, hi, rfl, M, RM, K0⟩ := hrel
    have HMg := RM.hg
    have HMb := RM.hb
    have FX_ := (HMg).facts; simp only [blockFacts, listFacts, cellsAt, Nat.reduceAdd, and_true, true_and, and_assoc] at FX_
    by_cases hlt : i < N
    · have hlt' : (i : Int) < N := by omega
      have i0 : (0 : Int) ≤ (i : Int) := by omega
      have ho : l[i]? = some (l.getD i 0) := getD_some (by omega)
      have e1 : (u64s l)[i]? = some (.int .u64 (l.getD i 0)) := u64s_at ho
      have hce := HMb.cellv e1
      generalize l.getD i 0 = o at *
      have HPk := Lib.hid (fun k => Calls.quiet_of_same ((mpeek_in (M.drewN k) i ho).mono fun _ _ ⟨p, q⟩ => ⟨p, q.symm⟩))
      clear ho e1
      go_wp2
      go_quiet ((go_at_call 32; with_reducible exact HPk.out _))
      go_wp2
      generalize hW : wr.drewN _ = W1
      have hk : Keeps wr W1 := by rw [← hW]; ((repeat' (first | (with_reducible exact Keeps.refl _) | (with_reducible assumption) | (with_reducible refine Keeps.drewN ?_ _) | (with_reducible refine Keeps.drew ?_) | (with_reducible refine Keeps.alloc ?_ _) | (with_reducible refine Keeps.setCell ?_ ?_ _) | (with_reducible refine Keeps.trans ?_ (After.keeps _)) | (with_reducible refine Keeps.trans ?_ (by with_reducible assumption)) | go_size)); (first | done | fail))
      clear hW
      go_roundw
      case rel => exact ⟨i + 1, by omega, by go_num, M.keeps hk, RM.keeps hk, K0.trans hk⟩
      case measure => simp [intOf]; omega
    · obtain rfl : i = N := by omega
      have HCt := Lib.hid (fun k => Calls.quiet_of_same ((mcount (M.drewN k)).mono fun _ _ ⟨p, q⟩ => ⟨p, q.symm⟩))
      go_wp2
      go_quiet ((go_at_call 23; with_reducible exact HCt.out _))
      go_wp2
      go_ret
      exact ⟨rfl, K0.trans (by ((repeat' (first | (with_reducible exact Keeps.refl _) | (with_reducible assumption) | (with_reducible refine Keeps.drewN ?_ _) | (with_reducible refine Keeps.drew ?_) | (with_reducible refine Keeps.alloc ?_ _) | (with_reducible refine Keeps.setCell ?_ ?_ _) | (with_reducible refine Keeps.trans ?_ (After.keeps _)) | (with_reducible refine Keeps.trans ?_ (by with_reducible assumption)) | go_size)); (first | done | fail)))⟩
end
end Go.Proofs.Ytcohhfndaogikaa
