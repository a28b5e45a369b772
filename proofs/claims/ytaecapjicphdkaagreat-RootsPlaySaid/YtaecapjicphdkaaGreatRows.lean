/-
  No cell of these rows narrows 'for every input' (looked for: loops, veiled, ifaces, maps, wideKeys, modest, calm, conditions, laid).
  DERIVED. THE GIVEN ROWS OF THIS SEAT. 3 by the template 'for every input the law returns true; each argument reads behind the call as it read before'; 0 by the template 'total and deterministic' (their statements: YtaecapjicphdkaaGreatTotals.lean).
  GIVEN WITH THE SEED: the statements are not yours to turn. If you find one false, say at which input.
  Laid BY PROGRAM, IN A SANDBOX (cutbox-rows.mjs): the forced cells as the released guide's own fill.sh prints them over the translation 7d5f07abb1613d8e… (all of the seat's roots in one cut). By AI agents, Wed Nov 11 2026. No macro, syntax, notation, axiom, sorry.
-/
import Derived.Test.YtaecapjicphdkaaGreatChecked
import GoSem.Claim
import GoSem.ClaimJoined
import GoSem.ClaimMapViews
import Derived.JoinedTies
import Derived.KernelRfl
namespace Go.Proofs.YtaecapjicphdkaaGreat
/- THE CELL 'sum', in the pinned program and in every row, IS THE sha256 OF THE DUMP (.gsa) THAT YtaecapjicphdkaaGreatProg.lean LOADS. Nothing in Lean hashes anything: it is a label: what it is worth is what the hold of that sum in a sandbox is worth. -/
noncomputable def Tryz.pinned : Pinned := { name := "ytaecapjicphdkaagreat", sum := "7d5f07abb1613d8e266acd0537a0c75786f6a9224c6b82e2afa605b7594cbed3", checked := Tryz.checked }
namespace Rows
def none {H : Type} : Left H := { results := [], args := [] }

/-- 'rundalelaw11.RootsNone': WHATEVER THE INPUT: true; the input reads as it did. -/
def rootsNoneSpec : ChangeSpec := { name := "rootsNone", fn := fun _ => fun
  | [d1, d2, d3] => { results := [.lit (.bool true)], args := [d1, d2, d3] }
  | _ => none }
def rootsNoneRow : OpenClaim := { program := "ytaecapjicphdkaagreat", sum := "7d5f07abb1613d8e266acd0537a0c75786f6a9224c6b82e2afa605b7594cbed3", func := "rundale/rundalelaw11.RootsNone", spec := "rootsNone", unfollowed := true, recurses := true, apart := false }
def RootsNoneSaid : Prop := rootsNoneRow.holds Tryz.pinned (OpenSpec.ofChange rootsNoneSpec)

/-- ITS FALSE NEIGHBOUR: 'it returns false'. Refute it at one input. -/
def rootsNoneWrong : ChangeSpec := { name := "rootsNone", fn := fun _ => fun
  | [d1, d2, d3] => { results := [.lit (.bool false)], args := [d1, d2, d3] }
  | _ => none }
def RootsNoneWrongFalsely : Prop := rootsNoneRow.holds Tryz.pinned (OpenSpec.ofChange rootsNoneWrong)

/-- 'rundalelaw11.RootsGens': WHATEVER THE INPUT: true; the input reads as it did. -/
def rootsGensSpec : ChangeSpec := { name := "rootsGens", fn := fun _ => fun
  | [d1, d2] => { results := [.lit (.bool true)], args := [d1, d2] }
  | _ => none }
def rootsGensRow : OpenClaim := { program := "ytaecapjicphdkaagreat", sum := "7d5f07abb1613d8e266acd0537a0c75786f6a9224c6b82e2afa605b7594cbed3", func := "rundale/rundalelaw11.RootsGens", spec := "rootsGens", unfollowed := true, recurses := true, apart := false }
def RootsGensSaid : Prop := rootsGensRow.holds Tryz.pinned (OpenSpec.ofChange rootsGensSpec)

/-- ITS FALSE NEIGHBOUR: 'it returns false'. Refute it at one input. -/
def rootsGensWrong : ChangeSpec := { name := "rootsGens", fn := fun _ => fun
  | [d1, d2] => { results := [.lit (.bool false)], args := [d1, d2] }
  | _ => none }
def RootsGensWrongFalsely : Prop := rootsGensRow.holds Tryz.pinned (OpenSpec.ofChange rootsGensWrong)

/-- 'rundalelaw11.RootsPlay': WHATEVER THE INPUT: true; the input reads as it did. -/
def rootsPlaySpec : ChangeSpec := { name := "rootsPlay", fn := fun _ => fun
  | [d1, d2] => { results := [.lit (.bool true)], args := [d1, d2] }
  | _ => none }
def rootsPlayRow : OpenClaim := { program := "ytaecapjicphdkaagreat", sum := "7d5f07abb1613d8e266acd0537a0c75786f6a9224c6b82e2afa605b7594cbed3", func := "rundale/rundalelaw11.RootsPlay", spec := "rootsPlay", unfollowed := true, recurses := true, apart := false }
def RootsPlaySaid : Prop := rootsPlayRow.holds Tryz.pinned (OpenSpec.ofChange rootsPlaySpec)

/-- ITS FALSE NEIGHBOUR: 'it returns false'. Refute it at one input. -/
def rootsPlayWrong : ChangeSpec := { name := "rootsPlay", fn := fun _ => fun
  | [d1, d2] => { results := [.lit (.bool false)], args := [d1, d2] }
  | _ => none }
def RootsPlayWrongFalsely : Prop := rootsPlayRow.holds Tryz.pinned (OpenSpec.ofChange rootsPlayWrong)

/- THE SECOND FORM. 'bulk': how many values and letters a reading holds, each counted each time it is reached (what is shared counts as often as it is met; a slice's spare places count too). A statement '..UptoSaid' is the law's where the arguments, and the package variables that the reading takes, are together of bulk at most 1048576: NARROWER than '..Said'. Prove '..Said' where nothing that the law and all that it calls make is longer than what came in: it says more and counts as full. Else prove '..UptoSaid'. A law counts once. -/
mutual
def uptoBulk {H : Type} : DataW H → Nat
  | .lit (.string bytes) => bytes.length + 1
  | .lit _ => 1
  | .nil => 1
  | .ptr d => uptoBulk d + 1
  | .slice elems spare => uptoBulkAll elems + uptoBulkAll spare + 1
  | .agg parts => uptoBulkAll parts + 1
  | .iface _ d => uptoBulk d + 1
  | .map entries => uptoBulkEntries entries + 1
  | .held _ => 1
def uptoBulkAll {H : Type} : List (DataW H) → Nat
  | [] => 0
  | d :: r => uptoBulk d + uptoBulkAll r
def uptoBulkEntries {H : Type} : List (Lit × DataW H) → Nat
  | [] => 0
  | x :: r => uptoBulkEntry x + uptoBulkEntries r
def uptoBulkEntry {H : Type} : Lit × DataW H → Nat
  | (.string bytes, d) => bytes.length + uptoBulk d + 1
  | (_, d) => uptoBulk d + 1
 end
def uptoSmall : (H : Type) → List (DataW H) → Bool := fun _ ds => decide (uptoBulkAll ds ≤ 1048576)
def OpenSpec.upto (s : _root_.Go.ChangeSpec) : _root_.Go.OpenSpec := { _root_.Go.OpenSpec.ofChange s with cond := some uptoSmall }

/-- 'rundalelaw11.RootsNone', WHERE WHAT IT READS IS OF BULK AT MOST 1048576: true; the input reads as it did. -/
def rootsNoneUptoRow : OpenClaim := { program := "ytaecapjicphdkaagreat", sum := "7d5f07abb1613d8e266acd0537a0c75786f6a9224c6b82e2afa605b7594cbed3", func := "rundale/rundalelaw11.RootsNone", spec := "rootsNone", unfollowed := true, recurses := true, apart := false, narrowed := true }
def RootsNoneUptoSaid : Prop := rootsNoneUptoRow.holds Tryz.pinned (OpenSpec.upto rootsNoneSpec)

/-- 'rundalelaw11.RootsGens', WHERE WHAT IT READS IS OF BULK AT MOST 1048576: true; the input reads as it did. -/
def rootsGensUptoRow : OpenClaim := { program := "ytaecapjicphdkaagreat", sum := "7d5f07abb1613d8e266acd0537a0c75786f6a9224c6b82e2afa605b7594cbed3", func := "rundale/rundalelaw11.RootsGens", spec := "rootsGens", unfollowed := true, recurses := true, apart := false, narrowed := true }
def RootsGensUptoSaid : Prop := rootsGensUptoRow.holds Tryz.pinned (OpenSpec.upto rootsGensSpec)

/-- 'rundalelaw11.RootsPlay', WHERE WHAT IT READS IS OF BULK AT MOST 1048576: true; the input reads as it did. -/
def rootsPlayUptoRow : OpenClaim := { program := "ytaecapjicphdkaagreat", sum := "7d5f07abb1613d8e266acd0537a0c75786f6a9224c6b82e2afa605b7594cbed3", func := "rundale/rundalelaw11.RootsPlay", spec := "rootsPlay", unfollowed := true, recurses := true, apart := false, narrowed := true }
def RootsPlayUptoSaid : Prop := rootsPlayUptoRow.holds Tryz.pinned (OpenSpec.upto rootsPlaySpec)

end Rows
end Go.Proofs.YtaecapjicphdkaaGreat
