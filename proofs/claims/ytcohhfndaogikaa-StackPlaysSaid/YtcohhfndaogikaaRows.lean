/-
  No cell of these rows narrows 'for every input' (looked for: loops, veiled, ifaces, maps, wideKeys, modest, calm, conditions, laid).
  DERIVED. THE GIVEN ROWS OF THIS SEAT. 10 by the template 'for every input the law returns true; each argument reads behind the call as it read before'; 0 by the template 'total and deterministic' (their statements: YtcohhfndaogikaaTotals.lean).
  GIVEN WITH THE SEED: the statements are not yours to turn. If you find one false, say at which input.
  Laid BY PROGRAM, IN A SANDBOX (cutbox-rows.mjs): the forced cells as the released guide's own fill.sh prints them over the translation 3dfd35e042f8da28… (all of the seat's roots in one cut). By AI agents, Wed Nov 11 2026. No macro, syntax, notation, axiom, sorry.
-/
import Derived.Test.YtcohhfndaogikaaChecked
import GoSem.Claim
import GoSem.ClaimJoined
import GoSem.ClaimMapViews
import Derived.JoinedTies
import Derived.KernelRfl
namespace Go.Proofs.Ytcohhfndaogikaa
/- THE CELL 'sum', in the pinned program and in every row, IS THE sha256 OF THE DUMP (.gsa) THAT YtcohhfndaogikaaProg.lean LOADS. Nothing in Lean hashes anything: it is a label: what it is worth is what the hold of that sum in a sandbox is worth. -/
noncomputable def Try.pinned : Pinned := { name := "ytcohhfndaogikaa", sum := "3dfd35e042f8da289da7d727f2c182cd8065509eaf9a015428db589fc3f9df26", checked := Try.checked }
namespace Rows
def none {H : Type} : Left H := { results := [], args := [] }

/-- 'rundalelaw12.ChainEnds': WHATEVER THE INPUT: true; the input reads as it did. -/
def chainEndsSpec : ChangeSpec := { name := "chainEnds", fn := fun _ => fun
  | [d1, d2, d3] => { results := [.lit (.bool true)], args := [d1, d2, d3] }
  | _ => none }
def chainEndsRow : OpenClaim := { program := "ytcohhfndaogikaa", sum := "3dfd35e042f8da289da7d727f2c182cd8065509eaf9a015428db589fc3f9df26", func := "rundale/rundalelaw12.ChainEnds", spec := "chainEnds", unfollowed := true, recurses := true, apart := false }
def ChainEndsSaid : Prop := chainEndsRow.holds Try.pinned (OpenSpec.ofChange chainEndsSpec)

/-- ITS FALSE NEIGHBOUR: 'it returns false'. Refute it at one input. -/
def chainEndsWrong : ChangeSpec := { name := "chainEnds", fn := fun _ => fun
  | [d1, d2, d3] => { results := [.lit (.bool false)], args := [d1, d2, d3] }
  | _ => none }
def ChainEndsWrongFalsely : Prop := chainEndsRow.holds Try.pinned (OpenSpec.ofChange chainEndsWrong)

/-- 'rundalelaw12.ChainBack': WHATEVER THE INPUT: true; the input reads as it did. -/
def chainBackSpec : ChangeSpec := { name := "chainBack", fn := fun _ => fun
  | [d1, d2] => { results := [.lit (.bool true)], args := [d1, d2] }
  | _ => none }
def chainBackRow : OpenClaim := { program := "ytcohhfndaogikaa", sum := "3dfd35e042f8da289da7d727f2c182cd8065509eaf9a015428db589fc3f9df26", func := "rundale/rundalelaw12.ChainBack", spec := "chainBack", unfollowed := true, recurses := true, apart := false }
def ChainBackSaid : Prop := chainBackRow.holds Try.pinned (OpenSpec.ofChange chainBackSpec)

/-- ITS FALSE NEIGHBOUR: 'it returns false'. Refute it at one input. -/
def chainBackWrong : ChangeSpec := { name := "chainBack", fn := fun _ => fun
  | [d1, d2] => { results := [.lit (.bool false)], args := [d1, d2] }
  | _ => none }
def ChainBackWrongFalsely : Prop := chainBackRow.holds Try.pinned (OpenSpec.ofChange chainBackWrong)

/-- 'rundalelaw12.ChainNone': WHATEVER THE INPUT: true; the input reads as it did. -/
def chainNoneSpec : ChangeSpec := { name := "chainNone", fn := fun _ => fun
  | [d1, d2, d3] => { results := [.lit (.bool true)], args := [d1, d2, d3] }
  | _ => none }
def chainNoneRow : OpenClaim := { program := "ytcohhfndaogikaa", sum := "3dfd35e042f8da289da7d727f2c182cd8065509eaf9a015428db589fc3f9df26", func := "rundale/rundalelaw12.ChainNone", spec := "chainNone", unfollowed := true, recurses := true, apart := false }
def ChainNoneSaid : Prop := chainNoneRow.holds Try.pinned (OpenSpec.ofChange chainNoneSpec)

/-- ITS FALSE NEIGHBOUR: 'it returns false'. Refute it at one input. -/
def chainNoneWrong : ChangeSpec := { name := "chainNone", fn := fun _ => fun
  | [d1, d2, d3] => { results := [.lit (.bool false)], args := [d1, d2, d3] }
  | _ => none }
def ChainNoneWrongFalsely : Prop := chainNoneRow.holds Try.pinned (OpenSpec.ofChange chainNoneWrong)

/-- 'rundalelaw12.ChainPlays': WHATEVER THE INPUT: true; the input reads as it did. -/
def chainPlaysSpec : ChangeSpec := { name := "chainPlays", fn := fun _ => fun
  | [d1, d2] => { results := [.lit (.bool true)], args := [d1, d2] }
  | _ => none }
def chainPlaysRow : OpenClaim := { program := "ytcohhfndaogikaa", sum := "3dfd35e042f8da289da7d727f2c182cd8065509eaf9a015428db589fc3f9df26", func := "rundale/rundalelaw12.ChainPlays", spec := "chainPlays", unfollowed := true, recurses := true, apart := false }
def ChainPlaysSaid : Prop := chainPlaysRow.holds Try.pinned (OpenSpec.ofChange chainPlaysSpec)

/-- ITS FALSE NEIGHBOUR: 'it returns false'. Refute it at one input. -/
def chainPlaysWrong : ChangeSpec := { name := "chainPlays", fn := fun _ => fun
  | [d1, d2] => { results := [.lit (.bool false)], args := [d1, d2] }
  | _ => none }
def ChainPlaysWrongFalsely : Prop := chainPlaysRow.holds Try.pinned (OpenSpec.ofChange chainPlaysWrong)

/-- 'rundalelaw6.StackRefuses': WHATEVER THE INPUT: true; the input reads as it did. -/
def stackRefusesSpec : ChangeSpec := { name := "stackRefuses", fn := fun _ => fun
  | [d1, d2, d3, d4] => { results := [.lit (.bool true)], args := [d1, d2, d3, d4] }
  | _ => none }
def stackRefusesRow : OpenClaim := { program := "ytcohhfndaogikaa", sum := "3dfd35e042f8da289da7d727f2c182cd8065509eaf9a015428db589fc3f9df26", func := "rundale/rundalelaw6.StackRefuses", spec := "stackRefuses", unfollowed := true, recurses := true, apart := false }
def StackRefusesSaid : Prop := stackRefusesRow.holds Try.pinned (OpenSpec.ofChange stackRefusesSpec)

/-- ITS FALSE NEIGHBOUR: 'it returns false'. Refute it at one input. -/
def stackRefusesWrong : ChangeSpec := { name := "stackRefuses", fn := fun _ => fun
  | [d1, d2, d3, d4] => { results := [.lit (.bool false)], args := [d1, d2, d3, d4] }
  | _ => none }
def StackRefusesWrongFalsely : Prop := stackRefusesRow.holds Try.pinned (OpenSpec.ofChange stackRefusesWrong)

/-- 'rundalelaw6.StackOrder': WHATEVER THE INPUT: true; the input reads as it did. -/
def stackOrderSpec : ChangeSpec := { name := "stackOrder", fn := fun _ => fun
  | [d1, d2, d3] => { results := [.lit (.bool true)], args := [d1, d2, d3] }
  | _ => none }
def stackOrderRow : OpenClaim := { program := "ytcohhfndaogikaa", sum := "3dfd35e042f8da289da7d727f2c182cd8065509eaf9a015428db589fc3f9df26", func := "rundale/rundalelaw6.StackOrder", spec := "stackOrder", unfollowed := true, recurses := true, apart := false }
def StackOrderSaid : Prop := stackOrderRow.holds Try.pinned (OpenSpec.ofChange stackOrderSpec)

/-- ITS FALSE NEIGHBOUR: 'it returns false'. Refute it at one input. -/
def stackOrderWrong : ChangeSpec := { name := "stackOrder", fn := fun _ => fun
  | [d1, d2, d3] => { results := [.lit (.bool false)], args := [d1, d2, d3] }
  | _ => none }
def StackOrderWrongFalsely : Prop := stackOrderRow.holds Try.pinned (OpenSpec.ofChange stackOrderWrong)

/-- 'rundalelaw6.StackLots': WHATEVER THE INPUT: true; the input reads as it did. -/
def stackLotsSpec : ChangeSpec := { name := "stackLots", fn := fun _ => fun
  | [d1, d2] => { results := [.lit (.bool true)], args := [d1, d2] }
  | _ => none }
def stackLotsRow : OpenClaim := { program := "ytcohhfndaogikaa", sum := "3dfd35e042f8da289da7d727f2c182cd8065509eaf9a015428db589fc3f9df26", func := "rundale/rundalelaw6.StackLots", spec := "stackLots", unfollowed := true, recurses := true, apart := false }
def StackLotsSaid : Prop := stackLotsRow.holds Try.pinned (OpenSpec.ofChange stackLotsSpec)

/-- ITS FALSE NEIGHBOUR: 'it returns false'. Refute it at one input. -/
def stackLotsWrong : ChangeSpec := { name := "stackLots", fn := fun _ => fun
  | [d1, d2] => { results := [.lit (.bool false)], args := [d1, d2] }
  | _ => none }
def StackLotsWrongFalsely : Prop := stackLotsRow.holds Try.pinned (OpenSpec.ofChange stackLotsWrong)

/-- 'rundalelaw6.StackStale': WHATEVER THE INPUT: true; the input reads as it did. -/
def stackStaleSpec : ChangeSpec := { name := "stackStale", fn := fun _ => fun
  | [d1, d2] => { results := [.lit (.bool true)], args := [d1, d2] }
  | _ => none }
def stackStaleRow : OpenClaim := { program := "ytcohhfndaogikaa", sum := "3dfd35e042f8da289da7d727f2c182cd8065509eaf9a015428db589fc3f9df26", func := "rundale/rundalelaw6.StackStale", spec := "stackStale", unfollowed := true, recurses := true, apart := false }
def StackStaleSaid : Prop := stackStaleRow.holds Try.pinned (OpenSpec.ofChange stackStaleSpec)

/-- ITS FALSE NEIGHBOUR: 'it returns false'. Refute it at one input. -/
def stackStaleWrong : ChangeSpec := { name := "stackStale", fn := fun _ => fun
  | [d1, d2] => { results := [.lit (.bool false)], args := [d1, d2] }
  | _ => none }
def StackStaleWrongFalsely : Prop := stackStaleRow.holds Try.pinned (OpenSpec.ofChange stackStaleWrong)

/-- 'rundalelaw6.StackPlays': WHATEVER THE INPUT: true; the input reads as it did. -/
def stackPlaysSpec : ChangeSpec := { name := "stackPlays", fn := fun _ => fun
  | [d1, d2] => { results := [.lit (.bool true)], args := [d1, d2] }
  | _ => none }
def stackPlaysRow : OpenClaim := { program := "ytcohhfndaogikaa", sum := "3dfd35e042f8da289da7d727f2c182cd8065509eaf9a015428db589fc3f9df26", func := "rundale/rundalelaw6.StackPlays", spec := "stackPlays", unfollowed := true, recurses := true, apart := false }
def StackPlaysSaid : Prop := stackPlaysRow.holds Try.pinned (OpenSpec.ofChange stackPlaysSpec)

/-- ITS FALSE NEIGHBOUR: 'it returns false'. Refute it at one input. -/
def stackPlaysWrong : ChangeSpec := { name := "stackPlays", fn := fun _ => fun
  | [d1, d2] => { results := [.lit (.bool false)], args := [d1, d2] }
  | _ => none }
def StackPlaysWrongFalsely : Prop := stackPlaysRow.holds Try.pinned (OpenSpec.ofChange stackPlaysWrong)

/-- 'rundalelaw6.StackWhole': WHATEVER THE INPUT: true; the input reads as it did. -/
def stackWholeSpec : ChangeSpec := { name := "stackWhole", fn := fun _ => fun
  | [d1, d2] => { results := [.lit (.bool true)], args := [d1, d2] }
  | _ => none }
def stackWholeRow : OpenClaim := { program := "ytcohhfndaogikaa", sum := "3dfd35e042f8da289da7d727f2c182cd8065509eaf9a015428db589fc3f9df26", func := "rundale/rundalelaw6.StackWhole", spec := "stackWhole", unfollowed := true, recurses := true, apart := false }
def StackWholeSaid : Prop := stackWholeRow.holds Try.pinned (OpenSpec.ofChange stackWholeSpec)

/-- ITS FALSE NEIGHBOUR: 'it returns false'. Refute it at one input. -/
def stackWholeWrong : ChangeSpec := { name := "stackWhole", fn := fun _ => fun
  | [d1, d2] => { results := [.lit (.bool false)], args := [d1, d2] }
  | _ => none }
def StackWholeWrongFalsely : Prop := stackWholeRow.holds Try.pinned (OpenSpec.ofChange stackWholeWrong)

/- THE SECOND FORM. 'bulk': how many values and letters a reading holds, each counted each time it is reached (what is shared counts as often as it is met; a slice's spare places count too). A statement '..UptoSaid' is the law's where the arguments, and the package variables that the reading takes, are together of bulk at most 1048576: NARROWER than '..Said'. Prove '..Said' where nothing that the law and all that it calls make is longer than what came in: it says more and counts as full. Else prove '..UptoSaid'. A law counts once. -/
mutual
def uptoBulk {H : Type} : DataW H → Nat
  | .lit (.string bytes) => bytes.length + 1
  | .lit _ => 1
  | .nil => 1
  | .ptr d => uptoBulk d + 1
  | .slice elems spare => uptoBulkAll elems + uptoBulkAll spare + 1
  | .agg parts => uptoBulkAll parts + 1
  | .iface _ d => uptoBulk d + 1
  | .map entries => uptoBulkEntries entries + 1
  | .held _ => 1
def uptoBulkAll {H : Type} : List (DataW H) → Nat
  | [] => 0
  | d :: r => uptoBulk d + uptoBulkAll r
def uptoBulkEntries {H : Type} : List (Lit × DataW H) → Nat
  | [] => 0
  | x :: r => uptoBulkEntry x + uptoBulkEntries r
def uptoBulkEntry {H : Type} : Lit × DataW H → Nat
  | (.string bytes, d) => bytes.length + uptoBulk d + 1
  | (_, d) => uptoBulk d + 1
 end
def uptoSmall : (H : Type) → List (DataW H) → Bool := fun _ ds => decide (uptoBulkAll ds ≤ 1048576)
def OpenSpec.upto (s : _root_.Go.ChangeSpec) : _root_.Go.OpenSpec := { _root_.Go.OpenSpec.ofChange s with cond := some uptoSmall }

/-- 'rundalelaw12.ChainEnds', WHERE WHAT IT READS IS OF BULK AT MOST 1048576: true; the input reads as it did. -/
def chainEndsUptoRow : OpenClaim := { program := "ytcohhfndaogikaa", sum := "3dfd35e042f8da289da7d727f2c182cd8065509eaf9a015428db589fc3f9df26", func := "rundale/rundalelaw12.ChainEnds", spec := "chainEnds", unfollowed := true, recurses := true, apart := false, narrowed := true }
def ChainEndsUptoSaid : Prop := chainEndsUptoRow.holds Try.pinned (OpenSpec.upto chainEndsSpec)

/-- 'rundalelaw12.ChainBack', WHERE WHAT IT READS IS OF BULK AT MOST 1048576: true; the input reads as it did. -/
def chainBackUptoRow : OpenClaim := { program := "ytcohhfndaogikaa", sum := "3dfd35e042f8da289da7d727f2c182cd8065509eaf9a015428db589fc3f9df26", func := "rundale/rundalelaw12.ChainBack", spec := "chainBack", unfollowed := true, recurses := true, apart := false, narrowed := true }
def ChainBackUptoSaid : Prop := chainBackUptoRow.holds Try.pinned (OpenSpec.upto chainBackSpec)

/-- 'rundalelaw12.ChainNone', WHERE WHAT IT READS IS OF BULK AT MOST 1048576: true; the input reads as it did. -/
def chainNoneUptoRow : OpenClaim := { program := "ytcohhfndaogikaa", sum := "3dfd35e042f8da289da7d727f2c182cd8065509eaf9a015428db589fc3f9df26", func := "rundale/rundalelaw12.ChainNone", spec := "chainNone", unfollowed := true, recurses := true, apart := false, narrowed := true }
def ChainNoneUptoSaid : Prop := chainNoneUptoRow.holds Try.pinned (OpenSpec.upto chainNoneSpec)

/-- 'rundalelaw12.ChainPlays', WHERE WHAT IT READS IS OF BULK AT MOST 1048576: true; the input reads as it did. -/
def chainPlaysUptoRow : OpenClaim := { program := "ytcohhfndaogikaa", sum := "3dfd35e042f8da289da7d727f2c182cd8065509eaf9a015428db589fc3f9df26", func := "rundale/rundalelaw12.ChainPlays", spec := "chainPlays", unfollowed := true, recurses := true, apart := false, narrowed := true }
def ChainPlaysUptoSaid : Prop := chainPlaysUptoRow.holds Try.pinned (OpenSpec.upto chainPlaysSpec)

/-- 'rundalelaw6.StackRefuses', WHERE WHAT IT READS IS OF BULK AT MOST 1048576: true; the input reads as it did. -/
def stackRefusesUptoRow : OpenClaim := { program := "ytcohhfndaogikaa", sum := "3dfd35e042f8da289da7d727f2c182cd8065509eaf9a015428db589fc3f9df26", func := "rundale/rundalelaw6.StackRefuses", spec := "stackRefuses", unfollowed := true, recurses := true, apart := false, narrowed := true }
def StackRefusesUptoSaid : Prop := stackRefusesUptoRow.holds Try.pinned (OpenSpec.upto stackRefusesSpec)

/-- 'rundalelaw6.StackOrder', WHERE WHAT IT READS IS OF BULK AT MOST 1048576: true; the input reads as it did. -/
def stackOrderUptoRow : OpenClaim := { program := "ytcohhfndaogikaa", sum := "3dfd35e042f8da289da7d727f2c182cd8065509eaf9a015428db589fc3f9df26", func := "rundale/rundalelaw6.StackOrder", spec := "stackOrder", unfollowed := true, recurses := true, apart := false, narrowed := true }
def StackOrderUptoSaid : Prop := stackOrderUptoRow.holds Try.pinned (OpenSpec.upto stackOrderSpec)

/-- 'rundalelaw6.StackLots', WHERE WHAT IT READS IS OF BULK AT MOST 1048576: true; the input reads as it did. -/
def stackLotsUptoRow : OpenClaim := { program := "ytcohhfndaogikaa", sum := "3dfd35e042f8da289da7d727f2c182cd8065509eaf9a015428db589fc3f9df26", func := "rundale/rundalelaw6.StackLots", spec := "stackLots", unfollowed := true, recurses := true, apart := false, narrowed := true }
def StackLotsUptoSaid : Prop := stackLotsUptoRow.holds Try.pinned (OpenSpec.upto stackLotsSpec)

/-- 'rundalelaw6.StackStale', WHERE WHAT IT READS IS OF BULK AT MOST 1048576: true; the input reads as it did. -/
def stackStaleUptoRow : OpenClaim := { program := "ytcohhfndaogikaa", sum := "3dfd35e042f8da289da7d727f2c182cd8065509eaf9a015428db589fc3f9df26", func := "rundale/rundalelaw6.StackStale", spec := "stackStale", unfollowed := true, recurses := true, apart := false, narrowed := true }
def StackStaleUptoSaid : Prop := stackStaleUptoRow.holds Try.pinned (OpenSpec.upto stackStaleSpec)

/-- 'rundalelaw6.StackPlays', WHERE WHAT IT READS IS OF BULK AT MOST 1048576: true; the input reads as it did. -/
def stackPlaysUptoRow : OpenClaim := { program := "ytcohhfndaogikaa", sum := "3dfd35e042f8da289da7d727f2c182cd8065509eaf9a015428db589fc3f9df26", func := "rundale/rundalelaw6.StackPlays", spec := "stackPlays", unfollowed := true, recurses := true, apart := false, narrowed := true }
def StackPlaysUptoSaid : Prop := stackPlaysUptoRow.holds Try.pinned (OpenSpec.upto stackPlaysSpec)

/-- 'rundalelaw6.StackWhole', WHERE WHAT IT READS IS OF BULK AT MOST 1048576: true; the input reads as it did. -/
def stackWholeUptoRow : OpenClaim := { program := "ytcohhfndaogikaa", sum := "3dfd35e042f8da289da7d727f2c182cd8065509eaf9a015428db589fc3f9df26", func := "rundale/rundalelaw6.StackWhole", spec := "stackWhole", unfollowed := true, recurses := true, apart := false, narrowed := true }
def StackWholeUptoSaid : Prop := stackWholeUptoRow.holds Try.pinned (OpenSpec.upto stackWholeSpec)

end Rows
end Go.Proofs.Ytcohhfndaogikaa
