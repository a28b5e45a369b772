/-
  No cell of these rows narrows 'for every input' (looked for: loops, veiled, ifaces, maps, wideKeys, modest, calm, conditions, laid).
  DERIVED. THE GIVEN ROWS OF THIS SEAT. 28 by the template 'for every input the law returns true; each argument reads behind the call as it read before'; 0 by the template 'total and deterministic' (their statements: YthlojiefnclgkaaTotals.lean).
  GIVEN WITH THE SEED: the statements are not yours to turn. If you find one false, say at which input.
  Laid BY PROGRAM, IN A SANDBOX (cutbox-rows.mjs): the forced cells as the released guide's own fill.sh prints them over the translation 8887f16bc1072fd2… (all of the seat's roots in one cut). By AI agents, Wed Nov 11 2026. No macro, syntax, notation, axiom, sorry.
-/
import Derived.Test.YthlojiefnclgkaaChecked
import GoSem.Claim
import GoSem.ClaimJoined
import GoSem.ClaimMapViews
import Derived.JoinedTies
import Derived.KernelRfl
namespace Go.Proofs.Ythlojiefnclgkaa
/- THE CELL 'sum', in the pinned program and in every row, IS THE sha256 OF THE DUMP (.gsa) THAT YthlojiefnclgkaaProg.lean LOADS. Nothing in Lean hashes anything: it is a label: what it is worth is what the hold of that sum in a sandbox is worth. -/
noncomputable def Try.pinned : Pinned := { name := "ythlojiefnclgkaa", sum := "8887f16bc1072fd283f71f3ab2524d42c9394931231f6f182614318e6b880ab8", checked := Try.checked }
namespace Rows
def none {H : Type} : Left H := { results := [], args := [] }

/-- 'rundalelaw5.CellsAdds': WHATEVER THE INPUT: true; the input reads as it did. -/
def cellsAddsSpec : ChangeSpec := { name := "cellsAdds", fn := fun _ => fun
  | [d] => { results := [.lit (.bool true)], args := [d] }
  | _ => none }
def cellsAddsRow : OpenClaim := { program := "ythlojiefnclgkaa", sum := "8887f16bc1072fd283f71f3ab2524d42c9394931231f6f182614318e6b880ab8", func := "rundale/rundalelaw5.CellsAdds", spec := "cellsAdds", apart := false }
def CellsAddsSaid : Prop := cellsAddsRow.holds Try.pinned (OpenSpec.ofChange cellsAddsSpec)

/-- ITS FALSE NEIGHBOUR: 'it returns false'. Refute it at one input. -/
def cellsAddsWrong : ChangeSpec := { name := "cellsAdds", fn := fun _ => fun
  | [d] => { results := [.lit (.bool false)], args := [d] }
  | _ => none }
def CellsAddsWrongFalsely : Prop := cellsAddsRow.holds Try.pinned (OpenSpec.ofChange cellsAddsWrong)

/-- 'rundalelaw10.GripPlays': WHATEVER THE INPUT: true; the input reads as it did. -/
def gripPlaysSpec : ChangeSpec := { name := "gripPlays", fn := fun _ => fun
  | [d] => { results := [.lit (.bool true)], args := [d] }
  | _ => none }
def gripPlaysRow : OpenClaim := { program := "ythlojiefnclgkaa", sum := "8887f16bc1072fd283f71f3ab2524d42c9394931231f6f182614318e6b880ab8", func := "rundale/rundalelaw10.GripPlays", spec := "gripPlays", apart := false }
def GripPlaysSaid : Prop := gripPlaysRow.holds Try.pinned (OpenSpec.ofChange gripPlaysSpec)

/-- ITS FALSE NEIGHBOUR: 'it returns false'. Refute it at one input. -/
def gripPlaysWrong : ChangeSpec := { name := "gripPlays", fn := fun _ => fun
  | [d] => { results := [.lit (.bool false)], args := [d] }
  | _ => none }
def GripPlaysWrongFalsely : Prop := gripPlaysRow.holds Try.pinned (OpenSpec.ofChange gripPlaysWrong)

/-- 'rundalelaw10.GripNests': WHATEVER THE INPUT: true; the input reads as it did. -/
def gripNestsSpec : ChangeSpec := { name := "gripNests", fn := fun _ => fun
  | [d] => { results := [.lit (.bool true)], args := [d] }
  | _ => none }
def gripNestsRow : OpenClaim := { program := "ythlojiefnclgkaa", sum := "8887f16bc1072fd283f71f3ab2524d42c9394931231f6f182614318e6b880ab8", func := "rundale/rundalelaw10.GripNests", spec := "gripNests", apart := false }
def GripNestsSaid : Prop := gripNestsRow.holds Try.pinned (OpenSpec.ofChange gripNestsSpec)

/-- ITS FALSE NEIGHBOUR: 'it returns false'. Refute it at one input. -/
def gripNestsWrong : ChangeSpec := { name := "gripNests", fn := fun _ => fun
  | [d] => { results := [.lit (.bool false)], args := [d] }
  | _ => none }
def GripNestsWrongFalsely : Prop := gripNestsRow.holds Try.pinned (OpenSpec.ofChange gripNestsWrong)

/-- 'rundalelaw10.GripFull': WHATEVER THE INPUT: true; the input reads as it did. -/
def gripFullSpec : ChangeSpec := { name := "gripFull", fn := fun _ => fun
  | [d1, d2, d3] => { results := [.lit (.bool true)], args := [d1, d2, d3] }
  | _ => none }
def gripFullRow : OpenClaim := { program := "ythlojiefnclgkaa", sum := "8887f16bc1072fd283f71f3ab2524d42c9394931231f6f182614318e6b880ab8", func := "rundale/rundalelaw10.GripFull", spec := "gripFull", apart := false }
def GripFullSaid : Prop := gripFullRow.holds Try.pinned (OpenSpec.ofChange gripFullSpec)

/-- ITS FALSE NEIGHBOUR: 'it returns false'. Refute it at one input. -/
def gripFullWrong : ChangeSpec := { name := "gripFull", fn := fun _ => fun
  | [d1, d2, d3] => { results := [.lit (.bool false)], args := [d1, d2, d3] }
  | _ => none }
def GripFullWrongFalsely : Prop := gripFullRow.holds Try.pinned (OpenSpec.ofChange gripFullWrong)

/-- 'rundalelaw10.GripApart': WHATEVER THE INPUT: true; the input reads as it did. -/
def gripApartSpec : ChangeSpec := { name := "gripApart", fn := fun _ => fun
  | [d1, d2, d3, d4] => { results := [.lit (.bool true)], args := [d1, d2, d3, d4] }
  | _ => none }
def gripApartRow : OpenClaim := { program := "ythlojiefnclgkaa", sum := "8887f16bc1072fd283f71f3ab2524d42c9394931231f6f182614318e6b880ab8", func := "rundale/rundalelaw10.GripApart", spec := "gripApart", apart := false }
def GripApartSaid : Prop := gripApartRow.holds Try.pinned (OpenSpec.ofChange gripApartSpec)

/-- ITS FALSE NEIGHBOUR: 'it returns false'. Refute it at one input. -/
def gripApartWrong : ChangeSpec := { name := "gripApart", fn := fun _ => fun
  | [d1, d2, d3, d4] => { results := [.lit (.bool false)], args := [d1, d2, d3, d4] }
  | _ => none }
def GripApartWrongFalsely : Prop := gripApartRow.holds Try.pinned (OpenSpec.ofChange gripApartWrong)

/-- 'rundalelaw5.CellsWins': WHATEVER THE INPUT: true; the input reads as it did. -/
def cellsWinsSpec : ChangeSpec := { name := "cellsWins", fn := fun _ => fun
  | [d1, d2] => { results := [.lit (.bool true)], args := [d1, d2] }
  | _ => none }
def cellsWinsRow : OpenClaim := { program := "ythlojiefnclgkaa", sum := "8887f16bc1072fd283f71f3ab2524d42c9394931231f6f182614318e6b880ab8", func := "rundale/rundalelaw5.CellsWins", spec := "cellsWins", apart := false }
def CellsWinsSaid : Prop := cellsWinsRow.holds Try.pinned (OpenSpec.ofChange cellsWinsSpec)

/-- ITS FALSE NEIGHBOUR: 'it returns false'. Refute it at one input. -/
def cellsWinsWrong : ChangeSpec := { name := "cellsWins", fn := fun _ => fun
  | [d1, d2] => { results := [.lit (.bool false)], args := [d1, d2] }
  | _ => none }
def CellsWinsWrongFalsely : Prop := cellsWinsRow.holds Try.pinned (OpenSpec.ofChange cellsWinsWrong)

/-- 'rundalelaw5.CellsApart': WHATEVER THE INPUT: true; the input reads as it did. -/
def cellsApartSpec : ChangeSpec := { name := "cellsApart", fn := fun _ => fun
  | [d1, d2] => { results := [.lit (.bool true)], args := [d1, d2] }
  | _ => none }
def cellsApartRow : OpenClaim := { program := "ythlojiefnclgkaa", sum := "8887f16bc1072fd283f71f3ab2524d42c9394931231f6f182614318e6b880ab8", func := "rundale/rundalelaw5.CellsApart", spec := "cellsApart", apart := false }
def CellsApartSaid : Prop := cellsApartRow.holds Try.pinned (OpenSpec.ofChange cellsApartSpec)

/-- ITS FALSE NEIGHBOUR: 'it returns false'. Refute it at one input. -/
def cellsApartWrong : ChangeSpec := { name := "cellsApart", fn := fun _ => fun
  | [d1, d2] => { results := [.lit (.bool false)], args := [d1, d2] }
  | _ => none }
def CellsApartWrongFalsely : Prop := cellsApartRow.holds Try.pinned (OpenSpec.ofChange cellsApartWrong)

/-- 'rundalelaw5.CellsPlay': WHATEVER THE INPUT: true; the input reads as it did. -/
def cellsPlaySpec : ChangeSpec := { name := "cellsPlay", fn := fun _ => fun
  | [d1, d2] => { results := [.lit (.bool true)], args := [d1, d2] }
  | _ => none }
def cellsPlayRow : OpenClaim := { program := "ythlojiefnclgkaa", sum := "8887f16bc1072fd283f71f3ab2524d42c9394931231f6f182614318e6b880ab8", func := "rundale/rundalelaw5.CellsPlay", spec := "cellsPlay", apart := false }
def CellsPlaySaid : Prop := cellsPlayRow.holds Try.pinned (OpenSpec.ofChange cellsPlaySpec)

/-- ITS FALSE NEIGHBOUR: 'it returns false'. Refute it at one input. -/
def cellsPlayWrong : ChangeSpec := { name := "cellsPlay", fn := fun _ => fun
  | [d1, d2] => { results := [.lit (.bool false)], args := [d1, d2] }
  | _ => none }
def CellsPlayWrongFalsely : Prop := cellsPlayRow.holds Try.pinned (OpenSpec.ofChange cellsPlayWrong)

/-- 'rundalelaw5.CellsNone': WHATEVER THE INPUT: true; the input reads as it did. -/
def cellsNoneSpec : ChangeSpec := { name := "cellsNone", fn := fun _ => fun
  | [d1, d2, d3] => { results := [.lit (.bool true)], args := [d1, d2, d3] }
  | _ => none }
def cellsNoneRow : OpenClaim := { program := "ythlojiefnclgkaa", sum := "8887f16bc1072fd283f71f3ab2524d42c9394931231f6f182614318e6b880ab8", func := "rundale/rundalelaw5.CellsNone", spec := "cellsNone", apart := false }
def CellsNoneSaid : Prop := cellsNoneRow.holds Try.pinned (OpenSpec.ofChange cellsNoneSpec)

/-- ITS FALSE NEIGHBOUR: 'it returns false'. Refute it at one input. -/
def cellsNoneWrong : ChangeSpec := { name := "cellsNone", fn := fun _ => fun
  | [d1, d2, d3] => { results := [.lit (.bool false)], args := [d1, d2, d3] }
  | _ => none }
def CellsNoneWrongFalsely : Prop := cellsNoneRow.holds Try.pinned (OpenSpec.ofChange cellsNoneWrong)

/-- 'rundalelaw9.EpochWins': WHATEVER THE INPUT: true; the input reads as it did. -/
def epochWinsSpec : ChangeSpec := { name := "epochWins", fn := fun _ => fun
  | [d1, d2] => { results := [.lit (.bool true)], args := [d1, d2] }
  | _ => none }
def epochWinsRow : OpenClaim := { program := "ythlojiefnclgkaa", sum := "8887f16bc1072fd283f71f3ab2524d42c9394931231f6f182614318e6b880ab8", func := "rundale/rundalelaw9.EpochWins", spec := "epochWins", unfollowed := true, recurses := true, apart := false }
def EpochWinsSaid : Prop := epochWinsRow.holds Try.pinned (OpenSpec.ofChange epochWinsSpec)

/-- ITS FALSE NEIGHBOUR: 'it returns false'. Refute it at one input. -/
def epochWinsWrong : ChangeSpec := { name := "epochWins", fn := fun _ => fun
  | [d1, d2] => { results := [.lit (.bool false)], args := [d1, d2] }
  | _ => none }
def EpochWinsWrongFalsely : Prop := epochWinsRow.holds Try.pinned (OpenSpec.ofChange epochWinsWrong)

/-- 'rundalelaw9.EpochBars': WHATEVER THE INPUT: true; the input reads as it did. -/
def epochBarsSpec : ChangeSpec := { name := "epochBars", fn := fun _ => fun
  | [d1, d2, d3] => { results := [.lit (.bool true)], args := [d1, d2, d3] }
  | _ => none }
def epochBarsRow : OpenClaim := { program := "ythlojiefnclgkaa", sum := "8887f16bc1072fd283f71f3ab2524d42c9394931231f6f182614318e6b880ab8", func := "rundale/rundalelaw9.EpochBars", spec := "epochBars", unfollowed := true, recurses := true, apart := false }
def EpochBarsSaid : Prop := epochBarsRow.holds Try.pinned (OpenSpec.ofChange epochBarsSpec)

/-- ITS FALSE NEIGHBOUR: 'it returns false'. Refute it at one input. -/
def epochBarsWrong : ChangeSpec := { name := "epochBars", fn := fun _ => fun
  | [d1, d2, d3] => { results := [.lit (.bool false)], args := [d1, d2, d3] }
  | _ => none }
def EpochBarsWrongFalsely : Prop := epochBarsRow.holds Try.pinned (OpenSpec.ofChange epochBarsWrong)

/-- 'rundalelaw16.TouchNone': WHATEVER THE INPUT: true; the input reads as it did. -/
def touchNoneSpec : ChangeSpec := { name := "touchNone", fn := fun _ => fun
  | [d1, d2, d3, d4] => { results := [.lit (.bool true)], args := [d1, d2, d3, d4] }
  | _ => none }
def touchNoneRow : OpenClaim := { program := "ythlojiefnclgkaa", sum := "8887f16bc1072fd283f71f3ab2524d42c9394931231f6f182614318e6b880ab8", func := "rundale/rundalelaw16.TouchNone", spec := "touchNone", unfollowed := true, recurses := true, apart := false }
def TouchNoneSaid : Prop := touchNoneRow.holds Try.pinned (OpenSpec.ofChange touchNoneSpec)

/-- ITS FALSE NEIGHBOUR: 'it returns false'. Refute it at one input. -/
def touchNoneWrong : ChangeSpec := { name := "touchNone", fn := fun _ => fun
  | [d1, d2, d3, d4] => { results := [.lit (.bool false)], args := [d1, d2, d3, d4] }
  | _ => none }
def TouchNoneWrongFalsely : Prop := touchNoneRow.holds Try.pinned (OpenSpec.ofChange touchNoneWrong)

/-- 'rundalelaw16.TouchApart': WHATEVER THE INPUT: true; the input reads as it did. -/
def touchApartSpec : ChangeSpec := { name := "touchApart", fn := fun _ => fun
  | [d1, d2, d3, d4] => { results := [.lit (.bool true)], args := [d1, d2, d3, d4] }
  | _ => none }
def touchApartRow : OpenClaim := { program := "ythlojiefnclgkaa", sum := "8887f16bc1072fd283f71f3ab2524d42c9394931231f6f182614318e6b880ab8", func := "rundale/rundalelaw16.TouchApart", spec := "touchApart", unfollowed := true, recurses := true, apart := false }
def TouchApartSaid : Prop := touchApartRow.holds Try.pinned (OpenSpec.ofChange touchApartSpec)

/-- ITS FALSE NEIGHBOUR: 'it returns false'. Refute it at one input. -/
def touchApartWrong : ChangeSpec := { name := "touchApart", fn := fun _ => fun
  | [d1, d2, d3, d4] => { results := [.lit (.bool false)], args := [d1, d2, d3, d4] }
  | _ => none }
def TouchApartWrongFalsely : Prop := touchApartRow.holds Try.pinned (OpenSpec.ofChange touchApartWrong)

/-- 'rundalelaw16.TouchOrder': WHATEVER THE INPUT: true; the input reads as it did. -/
def touchOrderSpec : ChangeSpec := { name := "touchOrder", fn := fun _ => fun
  | [d1, d2, d3] => { results := [.lit (.bool true)], args := [d1, d2, d3] }
  | _ => none }
def touchOrderRow : OpenClaim := { program := "ythlojiefnclgkaa", sum := "8887f16bc1072fd283f71f3ab2524d42c9394931231f6f182614318e6b880ab8", func := "rundale/rundalelaw16.TouchOrder", spec := "touchOrder", unfollowed := true, recurses := true, apart := false }
def TouchOrderSaid : Prop := touchOrderRow.holds Try.pinned (OpenSpec.ofChange touchOrderSpec)

/-- ITS FALSE NEIGHBOUR: 'it returns false'. Refute it at one input. -/
def touchOrderWrong : ChangeSpec := { name := "touchOrder", fn := fun _ => fun
  | [d1, d2, d3] => { results := [.lit (.bool false)], args := [d1, d2, d3] }
  | _ => none }
def TouchOrderWrongFalsely : Prop := touchOrderRow.holds Try.pinned (OpenSpec.ofChange touchOrderWrong)

/-- 'rundalelaw16.TouchPlays': WHATEVER THE INPUT: true; the input reads as it did. -/
def touchPlaysSpec : ChangeSpec := { name := "touchPlays", fn := fun _ => fun
  | [d1, d2] => { results := [.lit (.bool true)], args := [d1, d2] }
  | _ => none }
def touchPlaysRow : OpenClaim := { program := "ythlojiefnclgkaa", sum := "8887f16bc1072fd283f71f3ab2524d42c9394931231f6f182614318e6b880ab8", func := "rundale/rundalelaw16.TouchPlays", spec := "touchPlays", unfollowed := true, recurses := true, apart := false }
def TouchPlaysSaid : Prop := touchPlaysRow.holds Try.pinned (OpenSpec.ofChange touchPlaysSpec)

/-- ITS FALSE NEIGHBOUR: 'it returns false'. Refute it at one input. -/
def touchPlaysWrong : ChangeSpec := { name := "touchPlays", fn := fun _ => fun
  | [d1, d2] => { results := [.lit (.bool false)], args := [d1, d2] }
  | _ => none }
def TouchPlaysWrongFalsely : Prop := touchPlaysRow.holds Try.pinned (OpenSpec.ofChange touchPlaysWrong)

/-- 'rundalelaw9.EpochHolds': WHATEVER THE INPUT: true; the input reads as it did. -/
def epochHoldsSpec : ChangeSpec := { name := "epochHolds", fn := fun _ => fun
  | [d1, d2] => { results := [.lit (.bool true)], args := [d1, d2] }
  | _ => none }
def epochHoldsRow : OpenClaim := { program := "ythlojiefnclgkaa", sum := "8887f16bc1072fd283f71f3ab2524d42c9394931231f6f182614318e6b880ab8", func := "rundale/rundalelaw9.EpochHolds", spec := "epochHolds", unfollowed := true, recurses := true, apart := false }
def EpochHoldsSaid : Prop := epochHoldsRow.holds Try.pinned (OpenSpec.ofChange epochHoldsSpec)

/-- ITS FALSE NEIGHBOUR: 'it returns false'. Refute it at one input. -/
def epochHoldsWrong : ChangeSpec := { name := "epochHolds", fn := fun _ => fun
  | [d1, d2] => { results := [.lit (.bool false)], args := [d1, d2] }
  | _ => none }
def EpochHoldsWrongFalsely : Prop := epochHoldsRow.holds Try.pinned (OpenSpec.ofChange epochHoldsWrong)

/-- 'rundalelaw9.EpochNone': WHATEVER THE INPUT: true; the input reads as it did. -/
def epochNoneSpec : ChangeSpec := { name := "epochNone", fn := fun _ => fun
  | [d1, d2, d3, d4] => { results := [.lit (.bool true)], args := [d1, d2, d3, d4] }
  | _ => none }
def epochNoneRow : OpenClaim := { program := "ythlojiefnclgkaa", sum := "8887f16bc1072fd283f71f3ab2524d42c9394931231f6f182614318e6b880ab8", func := "rundale/rundalelaw9.EpochNone", spec := "epochNone", unfollowed := true, recurses := true, apart := false }
def EpochNoneSaid : Prop := epochNoneRow.holds Try.pinned (OpenSpec.ofChange epochNoneSpec)

/-- ITS FALSE NEIGHBOUR: 'it returns false'. Refute it at one input. -/
def epochNoneWrong : ChangeSpec := { name := "epochNone", fn := fun _ => fun
  | [d1, d2, d3, d4] => { results := [.lit (.bool false)], args := [d1, d2, d3, d4] }
  | _ => none }
def EpochNoneWrongFalsely : Prop := epochNoneRow.holds Try.pinned (OpenSpec.ofChange epochNoneWrong)

/-- 'rundalelaw12.ChainEnds': WHATEVER THE INPUT: true; the input reads as it did. -/
def chainEndsSpec : ChangeSpec := { name := "chainEnds", fn := fun _ => fun
  | [d1, d2, d3] => { results := [.lit (.bool true)], args := [d1, d2, d3] }
  | _ => none }
def chainEndsRow : OpenClaim := { program := "ythlojiefnclgkaa", sum := "8887f16bc1072fd283f71f3ab2524d42c9394931231f6f182614318e6b880ab8", func := "rundale/rundalelaw12.ChainEnds", spec := "chainEnds", unfollowed := true, recurses := true, apart := false }
def ChainEndsSaid : Prop := chainEndsRow.holds Try.pinned (OpenSpec.ofChange chainEndsSpec)

/-- ITS FALSE NEIGHBOUR: 'it returns false'. Refute it at one input. -/
def chainEndsWrong : ChangeSpec := { name := "chainEnds", fn := fun _ => fun
  | [d1, d2, d3] => { results := [.lit (.bool false)], args := [d1, d2, d3] }
  | _ => none }
def ChainEndsWrongFalsely : Prop := chainEndsRow.holds Try.pinned (OpenSpec.ofChange chainEndsWrong)

/-- 'rundalelaw12.ChainBack': WHATEVER THE INPUT: true; the input reads as it did. -/
def chainBackSpec : ChangeSpec := { name := "chainBack", fn := fun _ => fun
  | [d1, d2] => { results := [.lit (.bool true)], args := [d1, d2] }
  | _ => none }
def chainBackRow : OpenClaim := { program := "ythlojiefnclgkaa", sum := "8887f16bc1072fd283f71f3ab2524d42c9394931231f6f182614318e6b880ab8", func := "rundale/rundalelaw12.ChainBack", spec := "chainBack", unfollowed := true, recurses := true, apart := false }
def ChainBackSaid : Prop := chainBackRow.holds Try.pinned (OpenSpec.ofChange chainBackSpec)

/-- ITS FALSE NEIGHBOUR: 'it returns false'. Refute it at one input. -/
def chainBackWrong : ChangeSpec := { name := "chainBack", fn := fun _ => fun
  | [d1, d2] => { results := [.lit (.bool false)], args := [d1, d2] }
  | _ => none }
def ChainBackWrongFalsely : Prop := chainBackRow.holds Try.pinned (OpenSpec.ofChange chainBackWrong)

/-- 'rundalelaw12.ChainNone': WHATEVER THE INPUT: true; the input reads as it did. -/
def chainNoneSpec : ChangeSpec := { name := "chainNone", fn := fun _ => fun
  | [d1, d2, d3] => { results := [.lit (.bool true)], args := [d1, d2, d3] }
  | _ => none }
def chainNoneRow : OpenClaim := { program := "ythlojiefnclgkaa", sum := "8887f16bc1072fd283f71f3ab2524d42c9394931231f6f182614318e6b880ab8", func := "rundale/rundalelaw12.ChainNone", spec := "chainNone", unfollowed := true, recurses := true, apart := false }
def ChainNoneSaid : Prop := chainNoneRow.holds Try.pinned (OpenSpec.ofChange chainNoneSpec)

/-- ITS FALSE NEIGHBOUR: 'it returns false'. Refute it at one input. -/
def chainNoneWrong : ChangeSpec := { name := "chainNone", fn := fun _ => fun
  | [d1, d2, d3] => { results := [.lit (.bool false)], args := [d1, d2, d3] }
  | _ => none }
def ChainNoneWrongFalsely : Prop := chainNoneRow.holds Try.pinned (OpenSpec.ofChange chainNoneWrong)

/-- 'rundalelaw12.ChainPlays': WHATEVER THE INPUT: true; the input reads as it did. -/
def chainPlaysSpec : ChangeSpec := { name := "chainPlays", fn := fun _ => fun
  | [d1, d2] => { results := [.lit (.bool true)], args := [d1, d2] }
  | _ => none }
def chainPlaysRow : OpenClaim := { program := "ythlojiefnclgkaa", sum := "8887f16bc1072fd283f71f3ab2524d42c9394931231f6f182614318e6b880ab8", func := "rundale/rundalelaw12.ChainPlays", spec := "chainPlays", unfollowed := true, recurses := true, apart := false }
def ChainPlaysSaid : Prop := chainPlaysRow.holds Try.pinned (OpenSpec.ofChange chainPlaysSpec)

/-- ITS FALSE NEIGHBOUR: 'it returns false'. Refute it at one input. -/
def chainPlaysWrong : ChangeSpec := { name := "chainPlays", fn := fun _ => fun
  | [d1, d2] => { results := [.lit (.bool false)], args := [d1, d2] }
  | _ => none }
def ChainPlaysWrongFalsely : Prop := chainPlaysRow.holds Try.pinned (OpenSpec.ofChange chainPlaysWrong)

/-- 'rundalelaw6.StackRefuses': WHATEVER THE INPUT: true; the input reads as it did. -/
def stackRefusesSpec : ChangeSpec := { name := "stackRefuses", fn := fun _ => fun
  | [d1, d2, d3, d4] => { results := [.lit (.bool true)], args := [d1, d2, d3, d4] }
  | _ => none }
def stackRefusesRow : OpenClaim := { program := "ythlojiefnclgkaa", sum := "8887f16bc1072fd283f71f3ab2524d42c9394931231f6f182614318e6b880ab8", func := "rundale/rundalelaw6.StackRefuses", spec := "stackRefuses", unfollowed := true, recurses := true, apart := false }
def StackRefusesSaid : Prop := stackRefusesRow.holds Try.pinned (OpenSpec.ofChange stackRefusesSpec)

/-- ITS FALSE NEIGHBOUR: 'it returns false'. Refute it at one input. -/
def stackRefusesWrong : ChangeSpec := { name := "stackRefuses", fn := fun _ => fun
  | [d1, d2, d3, d4] => { results := [.lit (.bool false)], args := [d1, d2, d3, d4] }
  | _ => none }
def StackRefusesWrongFalsely : Prop := stackRefusesRow.holds Try.pinned (OpenSpec.ofChange stackRefusesWrong)

/-- 'rundalelaw6.StackOrder': WHATEVER THE INPUT: true; the input reads as it did. -/
def stackOrderSpec : ChangeSpec := { name := "stackOrder", fn := fun _ => fun
  | [d1, d2, d3] => { results := [.lit (.bool true)], args := [d1, d2, d3] }
  | _ => none }
def stackOrderRow : OpenClaim := { program := "ythlojiefnclgkaa", sum := "8887f16bc1072fd283f71f3ab2524d42c9394931231f6f182614318e6b880ab8", func := "rundale/rundalelaw6.StackOrder", spec := "stackOrder", unfollowed := true, recurses := true, apart := false }
def StackOrderSaid : Prop := stackOrderRow.holds Try.pinned (OpenSpec.ofChange stackOrderSpec)

/-- ITS FALSE NEIGHBOUR: 'it returns false'. Refute it at one input. -/
def stackOrderWrong : ChangeSpec := { name := "stackOrder", fn := fun _ => fun
  | [d1, d2, d3] => { results := [.lit (.bool false)], args := [d1, d2, d3] }
  | _ => none }
def StackOrderWrongFalsely : Prop := stackOrderRow.holds Try.pinned (OpenSpec.ofChange stackOrderWrong)

/-- 'rundalelaw6.StackLots': WHATEVER THE INPUT: true; the input reads as it did. -/
def stackLotsSpec : ChangeSpec := { name := "stackLots", fn := fun _ => fun
  | [d1, d2] => { results := [.lit (.bool true)], args := [d1, d2] }
  | _ => none }
def stackLotsRow : OpenClaim := { program := "ythlojiefnclgkaa", sum := "8887f16bc1072fd283f71f3ab2524d42c9394931231f6f182614318e6b880ab8", func := "rundale/rundalelaw6.StackLots", spec := "stackLots", unfollowed := true, recurses := true, apart := false }
def StackLotsSaid : Prop := stackLotsRow.holds Try.pinned (OpenSpec.ofChange stackLotsSpec)

/-- ITS FALSE NEIGHBOUR: 'it returns false'. Refute it at one input. -/
def stackLotsWrong : ChangeSpec := { name := "stackLots", fn := fun _ => fun
  | [d1, d2] => { results := [.lit (.bool false)], args := [d1, d2] }
  | _ => none }
def StackLotsWrongFalsely : Prop := stackLotsRow.holds Try.pinned (OpenSpec.ofChange stackLotsWrong)

/-- 'rundalelaw6.StackStale': WHATEVER THE INPUT: true; the input reads as it did. -/
def stackStaleSpec : ChangeSpec := { name := "stackStale", fn := fun _ => fun
  | [d1, d2] => { results := [.lit (.bool true)], args := [d1, d2] }
  | _ => none }
def stackStaleRow : OpenClaim := { program := "ythlojiefnclgkaa", sum := "8887f16bc1072fd283f71f3ab2524d42c9394931231f6f182614318e6b880ab8", func := "rundale/rundalelaw6.StackStale", spec := "stackStale", unfollowed := true, recurses := true, apart := false }
def StackStaleSaid : Prop := stackStaleRow.holds Try.pinned (OpenSpec.ofChange stackStaleSpec)

/-- ITS FALSE NEIGHBOUR: 'it returns false'. Refute it at one input. -/
def stackStaleWrong : ChangeSpec := { name := "stackStale", fn := fun _ => fun
  | [d1, d2] => { results := [.lit (.bool false)], args := [d1, d2] }
  | _ => none }
def StackStaleWrongFalsely : Prop := stackStaleRow.holds Try.pinned (OpenSpec.ofChange stackStaleWrong)

/-- 'rundalelaw6.StackPlays': WHATEVER THE INPUT: true; the input reads as it did. -/
def stackPlaysSpec : ChangeSpec := { name := "stackPlays", fn := fun _ => fun
  | [d1, d2] => { results := [.lit (.bool true)], args := [d1, d2] }
  | _ => none }
def stackPlaysRow : OpenClaim := { program := "ythlojiefnclgkaa", sum := "8887f16bc1072fd283f71f3ab2524d42c9394931231f6f182614318e6b880ab8", func := "rundale/rundalelaw6.StackPlays", spec := "stackPlays", unfollowed := true, recurses := true, apart := false }
def StackPlaysSaid : Prop := stackPlaysRow.holds Try.pinned (OpenSpec.ofChange stackPlaysSpec)

/-- ITS FALSE NEIGHBOUR: 'it returns false'. Refute it at one input. -/
def stackPlaysWrong : ChangeSpec := { name := "stackPlays", fn := fun _ => fun
  | [d1, d2] => { results := [.lit (.bool false)], args := [d1, d2] }
  | _ => none }
def StackPlaysWrongFalsely : Prop := stackPlaysRow.holds Try.pinned (OpenSpec.ofChange stackPlaysWrong)

/-- 'rundalelaw6.StackWhole': WHATEVER THE INPUT: true; the input reads as it did. -/
def stackWholeSpec : ChangeSpec := { name := "stackWhole", fn := fun _ => fun
  | [d1, d2] => { results := [.lit (.bool true)], args := [d1, d2] }
  | _ => none }
def stackWholeRow : OpenClaim := { program := "ythlojiefnclgkaa", sum := "8887f16bc1072fd283f71f3ab2524d42c9394931231f6f182614318e6b880ab8", func := "rundale/rundalelaw6.StackWhole", spec := "stackWhole", unfollowed := true, recurses := true, apart := false }
def StackWholeSaid : Prop := stackWholeRow.holds Try.pinned (OpenSpec.ofChange stackWholeSpec)

/-- ITS FALSE NEIGHBOUR: 'it returns false'. Refute it at one input. -/
def stackWholeWrong : ChangeSpec := { name := "stackWhole", fn := fun _ => fun
  | [d1, d2] => { results := [.lit (.bool false)], args := [d1, d2] }
  | _ => none }
def StackWholeWrongFalsely : Prop := stackWholeRow.holds Try.pinned (OpenSpec.ofChange stackWholeWrong)

/-- 'rundalelaw11.RootsOnce': WHATEVER THE INPUT: true; the input reads as it did. -/
def rootsOnceSpec : ChangeSpec := { name := "rootsOnce", fn := fun _ => fun
  | [d1, d2, d3] => { results := [.lit (.bool true)], args := [d1, d2, d3] }
  | _ => none }
def rootsOnceRow : OpenClaim := { program := "ythlojiefnclgkaa", sum := "8887f16bc1072fd283f71f3ab2524d42c9394931231f6f182614318e6b880ab8", func := "rundale/rundalelaw11.RootsOnce", spec := "rootsOnce", unfollowed := true, recurses := true, apart := false }
def RootsOnceSaid : Prop := rootsOnceRow.holds Try.pinned (OpenSpec.ofChange rootsOnceSpec)

/-- ITS FALSE NEIGHBOUR: 'it returns false'. Refute it at one input. -/
def rootsOnceWrong : ChangeSpec := { name := "rootsOnce", fn := fun _ => fun
  | [d1, d2, d3] => { results := [.lit (.bool false)], args := [d1, d2, d3] }
  | _ => none }
def RootsOnceWrongFalsely : Prop := rootsOnceRow.holds Try.pinned (OpenSpec.ofChange rootsOnceWrong)

/- THE SECOND FORM. 'bulk': how many values and letters a reading holds, each counted each time it is reached (what is shared counts as often as it is met; a slice's spare places count too). A statement '..UptoSaid' is the law's where the arguments, and the package variables that the reading takes, are together of bulk at most 1048576: NARROWER than '..Said'. Prove '..Said' where nothing that the law and all that it calls make is longer than what came in: it says more and counts as full. Else prove '..UptoSaid'. A law counts once. -/
mutual
def uptoBulk {H : Type} : DataW H → Nat
  | .lit (.string bytes) => bytes.length + 1
  | .lit _ => 1
  | .nil => 1
  | .ptr d => uptoBulk d + 1
  | .slice elems spare => uptoBulkAll elems + uptoBulkAll spare + 1
  | .agg parts => uptoBulkAll parts + 1
  | .iface _ d => uptoBulk d + 1
  | .map entries => uptoBulkEntries entries + 1
  | .held _ => 1
def uptoBulkAll {H : Type} : List (DataW H) → Nat
  | [] => 0
  | d :: r => uptoBulk d + uptoBulkAll r
def uptoBulkEntries {H : Type} : List (Lit × DataW H) → Nat
  | [] => 0
  | x :: r => uptoBulkEntry x + uptoBulkEntries r
def uptoBulkEntry {H : Type} : Lit × DataW H → Nat
  | (.string bytes, d) => bytes.length + uptoBulk d + 1
  | (_, d) => uptoBulk d + 1
 end
def uptoSmall : (H : Type) → List (DataW H) → Bool := fun _ ds => decide (uptoBulkAll ds ≤ 1048576)
def OpenSpec.upto (s : _root_.Go.ChangeSpec) : _root_.Go.OpenSpec := { _root_.Go.OpenSpec.ofChange s with cond := some uptoSmall }

/-- 'rundalelaw5.CellsAdds', WHERE WHAT IT READS IS OF BULK AT MOST 1048576: true; the input reads as it did. -/
def cellsAddsUptoRow : OpenClaim := { program := "ythlojiefnclgkaa", sum := "8887f16bc1072fd283f71f3ab2524d42c9394931231f6f182614318e6b880ab8", func := "rundale/rundalelaw5.CellsAdds", spec := "cellsAdds", apart := false, narrowed := true }
def CellsAddsUptoSaid : Prop := cellsAddsUptoRow.holds Try.pinned (OpenSpec.upto cellsAddsSpec)

/-- 'rundalelaw10.GripPlays', WHERE WHAT IT READS IS OF BULK AT MOST 1048576: true; the input reads as it did. -/
def gripPlaysUptoRow : OpenClaim := { program := "ythlojiefnclgkaa", sum := "8887f16bc1072fd283f71f3ab2524d42c9394931231f6f182614318e6b880ab8", func := "rundale/rundalelaw10.GripPlays", spec := "gripPlays", apart := false, narrowed := true }
def GripPlaysUptoSaid : Prop := gripPlaysUptoRow.holds Try.pinned (OpenSpec.upto gripPlaysSpec)

/-- 'rundalelaw10.GripNests', WHERE WHAT IT READS IS OF BULK AT MOST 1048576: true; the input reads as it did. -/
def gripNestsUptoRow : OpenClaim := { program := "ythlojiefnclgkaa", sum := "8887f16bc1072fd283f71f3ab2524d42c9394931231f6f182614318e6b880ab8", func := "rundale/rundalelaw10.GripNests", spec := "gripNests", apart := false, narrowed := true }
def GripNestsUptoSaid : Prop := gripNestsUptoRow.holds Try.pinned (OpenSpec.upto gripNestsSpec)

/-- 'rundalelaw10.GripFull', WHERE WHAT IT READS IS OF BULK AT MOST 1048576: true; the input reads as it did. -/
def gripFullUptoRow : OpenClaim := { program := "ythlojiefnclgkaa", sum := "8887f16bc1072fd283f71f3ab2524d42c9394931231f6f182614318e6b880ab8", func := "rundale/rundalelaw10.GripFull", spec := "gripFull", apart := false, narrowed := true }
def GripFullUptoSaid : Prop := gripFullUptoRow.holds Try.pinned (OpenSpec.upto gripFullSpec)

/-- 'rundalelaw10.GripApart', WHERE WHAT IT READS IS OF BULK AT MOST 1048576: true; the input reads as it did. -/
def gripApartUptoRow : OpenClaim := { program := "ythlojiefnclgkaa", sum := "8887f16bc1072fd283f71f3ab2524d42c9394931231f6f182614318e6b880ab8", func := "rundale/rundalelaw10.GripApart", spec := "gripApart", apart := false, narrowed := true }
def GripApartUptoSaid : Prop := gripApartUptoRow.holds Try.pinned (OpenSpec.upto gripApartSpec)

/-- 'rundalelaw5.CellsWins', WHERE WHAT IT READS IS OF BULK AT MOST 1048576: true; the input reads as it did. -/
def cellsWinsUptoRow : OpenClaim := { program := "ythlojiefnclgkaa", sum := "8887f16bc1072fd283f71f3ab2524d42c9394931231f6f182614318e6b880ab8", func := "rundale/rundalelaw5.CellsWins", spec := "cellsWins", apart := false, narrowed := true }
def CellsWinsUptoSaid : Prop := cellsWinsUptoRow.holds Try.pinned (OpenSpec.upto cellsWinsSpec)

/-- 'rundalelaw5.CellsApart', WHERE WHAT IT READS IS OF BULK AT MOST 1048576: true; the input reads as it did. -/
def cellsApartUptoRow : OpenClaim := { program := "ythlojiefnclgkaa", sum := "8887f16bc1072fd283f71f3ab2524d42c9394931231f6f182614318e6b880ab8", func := "rundale/rundalelaw5.CellsApart", spec := "cellsApart", apart := false, narrowed := true }
def CellsApartUptoSaid : Prop := cellsApartUptoRow.holds Try.pinned (OpenSpec.upto cellsApartSpec)

/-- 'rundalelaw5.CellsPlay', WHERE WHAT IT READS IS OF BULK AT MOST 1048576: true; the input reads as it did. -/
def cellsPlayUptoRow : OpenClaim := { program := "ythlojiefnclgkaa", sum := "8887f16bc1072fd283f71f3ab2524d42c9394931231f6f182614318e6b880ab8", func := "rundale/rundalelaw5.CellsPlay", spec := "cellsPlay", apart := false, narrowed := true }
def CellsPlayUptoSaid : Prop := cellsPlayUptoRow.holds Try.pinned (OpenSpec.upto cellsPlaySpec)

/-- 'rundalelaw5.CellsNone', WHERE WHAT IT READS IS OF BULK AT MOST 1048576: true; the input reads as it did. -/
def cellsNoneUptoRow : OpenClaim := { program := "ythlojiefnclgkaa", sum := "8887f16bc1072fd283f71f3ab2524d42c9394931231f6f182614318e6b880ab8", func := "rundale/rundalelaw5.CellsNone", spec := "cellsNone", apart := false, narrowed := true }
def CellsNoneUptoSaid : Prop := cellsNoneUptoRow.holds Try.pinned (OpenSpec.upto cellsNoneSpec)

/-- 'rundalelaw9.EpochWins', WHERE WHAT IT READS IS OF BULK AT MOST 1048576: true; the input reads as it did. -/
def epochWinsUptoRow : OpenClaim := { program := "ythlojiefnclgkaa", sum := "8887f16bc1072fd283f71f3ab2524d42c9394931231f6f182614318e6b880ab8", func := "rundale/rundalelaw9.EpochWins", spec := "epochWins", unfollowed := true, recurses := true, apart := false, narrowed := true }
def EpochWinsUptoSaid : Prop := epochWinsUptoRow.holds Try.pinned (OpenSpec.upto epochWinsSpec)

/-- 'rundalelaw9.EpochBars', WHERE WHAT IT READS IS OF BULK AT MOST 1048576: true; the input reads as it did. -/
def epochBarsUptoRow : OpenClaim := { program := "ythlojiefnclgkaa", sum := "8887f16bc1072fd283f71f3ab2524d42c9394931231f6f182614318e6b880ab8", func := "rundale/rundalelaw9.EpochBars", spec := "epochBars", unfollowed := true, recurses := true, apart := false, narrowed := true }
def EpochBarsUptoSaid : Prop := epochBarsUptoRow.holds Try.pinned (OpenSpec.upto epochBarsSpec)

/-- 'rundalelaw16.TouchNone', WHERE WHAT IT READS IS OF BULK AT MOST 1048576: true; the input reads as it did. -/
def touchNoneUptoRow : OpenClaim := { program := "ythlojiefnclgkaa", sum := "8887f16bc1072fd283f71f3ab2524d42c9394931231f6f182614318e6b880ab8", func := "rundale/rundalelaw16.TouchNone", spec := "touchNone", unfollowed := true, recurses := true, apart := false, narrowed := true }
def TouchNoneUptoSaid : Prop := touchNoneUptoRow.holds Try.pinned (OpenSpec.upto touchNoneSpec)

/-- 'rundalelaw16.TouchApart', WHERE WHAT IT READS IS OF BULK AT MOST 1048576: true; the input reads as it did. -/
def touchApartUptoRow : OpenClaim := { program := "ythlojiefnclgkaa", sum := "8887f16bc1072fd283f71f3ab2524d42c9394931231f6f182614318e6b880ab8", func := "rundale/rundalelaw16.TouchApart", spec := "touchApart", unfollowed := true, recurses := true, apart := false, narrowed := true }
def TouchApartUptoSaid : Prop := touchApartUptoRow.holds Try.pinned (OpenSpec.upto touchApartSpec)

/-- 'rundalelaw16.TouchOrder', WHERE WHAT IT READS IS OF BULK AT MOST 1048576: true; the input reads as it did. -/
def touchOrderUptoRow : OpenClaim := { program := "ythlojiefnclgkaa", sum := "8887f16bc1072fd283f71f3ab2524d42c9394931231f6f182614318e6b880ab8", func := "rundale/rundalelaw16.TouchOrder", spec := "touchOrder", unfollowed := true, recurses := true, apart := false, narrowed := true }
def TouchOrderUptoSaid : Prop := touchOrderUptoRow.holds Try.pinned (OpenSpec.upto touchOrderSpec)

/-- 'rundalelaw16.TouchPlays', WHERE WHAT IT READS IS OF BULK AT MOST 1048576: true; the input reads as it did. -/
def touchPlaysUptoRow : OpenClaim := { program := "ythlojiefnclgkaa", sum := "8887f16bc1072fd283f71f3ab2524d42c9394931231f6f182614318e6b880ab8", func := "rundale/rundalelaw16.TouchPlays", spec := "touchPlays", unfollowed := true, recurses := true, apart := false, narrowed := true }
def TouchPlaysUptoSaid : Prop := touchPlaysUptoRow.holds Try.pinned (OpenSpec.upto touchPlaysSpec)

/-- 'rundalelaw9.EpochHolds', WHERE WHAT IT READS IS OF BULK AT MOST 1048576: true; the input reads as it did. -/
def epochHoldsUptoRow : OpenClaim := { program := "ythlojiefnclgkaa", sum := "8887f16bc1072fd283f71f3ab2524d42c9394931231f6f182614318e6b880ab8", func := "rundale/rundalelaw9.EpochHolds", spec := "epochHolds", unfollowed := true, recurses := true, apart := false, narrowed := true }
def EpochHoldsUptoSaid : Prop := epochHoldsUptoRow.holds Try.pinned (OpenSpec.upto epochHoldsSpec)

/-- 'rundalelaw9.EpochNone', WHERE WHAT IT READS IS OF BULK AT MOST 1048576: true; the input reads as it did. -/
def epochNoneUptoRow : OpenClaim := { program := "ythlojiefnclgkaa", sum := "8887f16bc1072fd283f71f3ab2524d42c9394931231f6f182614318e6b880ab8", func := "rundale/rundalelaw9.EpochNone", spec := "epochNone", unfollowed := true, recurses := true, apart := false, narrowed := true }
def EpochNoneUptoSaid : Prop := epochNoneUptoRow.holds Try.pinned (OpenSpec.upto epochNoneSpec)

/-- 'rundalelaw12.ChainEnds', WHERE WHAT IT READS IS OF BULK AT MOST 1048576: true; the input reads as it did. -/
def chainEndsUptoRow : OpenClaim := { program := "ythlojiefnclgkaa", sum := "8887f16bc1072fd283f71f3ab2524d42c9394931231f6f182614318e6b880ab8", func := "rundale/rundalelaw12.ChainEnds", spec := "chainEnds", unfollowed := true, recurses := true, apart := false, narrowed := true }
def ChainEndsUptoSaid : Prop := chainEndsUptoRow.holds Try.pinned (OpenSpec.upto chainEndsSpec)

/-- 'rundalelaw12.ChainBack', WHERE WHAT IT READS IS OF BULK AT MOST 1048576: true; the input reads as it did. -/
def chainBackUptoRow : OpenClaim := { program := "ythlojiefnclgkaa", sum := "8887f16bc1072fd283f71f3ab2524d42c9394931231f6f182614318e6b880ab8", func := "rundale/rundalelaw12.ChainBack", spec := "chainBack", unfollowed := true, recurses := true, apart := false, narrowed := true }
def ChainBackUptoSaid : Prop := chainBackUptoRow.holds Try.pinned (OpenSpec.upto chainBackSpec)

/-- 'rundalelaw12.ChainNone', WHERE WHAT IT READS IS OF BULK AT MOST 1048576: true; the input reads as it did. -/
def chainNoneUptoRow : OpenClaim := { program := "ythlojiefnclgkaa", sum := "8887f16bc1072fd283f71f3ab2524d42c9394931231f6f182614318e6b880ab8", func := "rundale/rundalelaw12.ChainNone", spec := "chainNone", unfollowed := true, recurses := true, apart := false, narrowed := true }
def ChainNoneUptoSaid : Prop := chainNoneUptoRow.holds Try.pinned (OpenSpec.upto chainNoneSpec)

/-- 'rundalelaw12.ChainPlays', WHERE WHAT IT READS IS OF BULK AT MOST 1048576: true; the input reads as it did. -/
def chainPlaysUptoRow : OpenClaim := { program := "ythlojiefnclgkaa", sum := "8887f16bc1072fd283f71f3ab2524d42c9394931231f6f182614318e6b880ab8", func := "rundale/rundalelaw12.ChainPlays", spec := "chainPlays", unfollowed := true, recurses := true, apart := false, narrowed := true }
def ChainPlaysUptoSaid : Prop := chainPlaysUptoRow.holds Try.pinned (OpenSpec.upto chainPlaysSpec)

/-- 'rundalelaw6.StackRefuses', WHERE WHAT IT READS IS OF BULK AT MOST 1048576: true; the input reads as it did. -/
def stackRefusesUptoRow : OpenClaim := { program := "ythlojiefnclgkaa", sum := "8887f16bc1072fd283f71f3ab2524d42c9394931231f6f182614318e6b880ab8", func := "rundale/rundalelaw6.StackRefuses", spec := "stackRefuses", unfollowed := true, recurses := true, apart := false, narrowed := true }
def StackRefusesUptoSaid : Prop := stackRefusesUptoRow.holds Try.pinned (OpenSpec.upto stackRefusesSpec)

/-- 'rundalelaw6.StackOrder', WHERE WHAT IT READS IS OF BULK AT MOST 1048576: true; the input reads as it did. -/
def stackOrderUptoRow : OpenClaim := { program := "ythlojiefnclgkaa", sum := "8887f16bc1072fd283f71f3ab2524d42c9394931231f6f182614318e6b880ab8", func := "rundale/rundalelaw6.StackOrder", spec := "stackOrder", unfollowed := true, recurses := true, apart := false, narrowed := true }
def StackOrderUptoSaid : Prop := stackOrderUptoRow.holds Try.pinned (OpenSpec.upto stackOrderSpec)

/-- 'rundalelaw6.StackLots', WHERE WHAT IT READS IS OF BULK AT MOST 1048576: true; the input reads as it did. -/
def stackLotsUptoRow : OpenClaim := { program := "ythlojiefnclgkaa", sum := "8887f16bc1072fd283f71f3ab2524d42c9394931231f6f182614318e6b880ab8", func := "rundale/rundalelaw6.StackLots", spec := "stackLots", unfollowed := true, recurses := true, apart := false, narrowed := true }
def StackLotsUptoSaid : Prop := stackLotsUptoRow.holds Try.pinned (OpenSpec.upto stackLotsSpec)

/-- 'rundalelaw6.StackStale', WHERE WHAT IT READS IS OF BULK AT MOST 1048576: true; the input reads as it did. -/
def stackStaleUptoRow : OpenClaim := { program := "ythlojiefnclgkaa", sum := "8887f16bc1072fd283f71f3ab2524d42c9394931231f6f182614318e6b880ab8", func := "rundale/rundalelaw6.StackStale", spec := "stackStale", unfollowed := true, recurses := true, apart := false, narrowed := true }
def StackStaleUptoSaid : Prop := stackStaleUptoRow.holds Try.pinned (OpenSpec.upto stackStaleSpec)

/-- 'rundalelaw6.StackPlays', WHERE WHAT IT READS IS OF BULK AT MOST 1048576: true; the input reads as it did. -/
def stackPlaysUptoRow : OpenClaim := { program := "ythlojiefnclgkaa", sum := "8887f16bc1072fd283f71f3ab2524d42c9394931231f6f182614318e6b880ab8", func := "rundale/rundalelaw6.StackPlays", spec := "stackPlays", unfollowed := true, recurses := true, apart := false, narrowed := true }
def StackPlaysUptoSaid : Prop := stackPlaysUptoRow.holds Try.pinned (OpenSpec.upto stackPlaysSpec)

/-- 'rundalelaw6.StackWhole', WHERE WHAT IT READS IS OF BULK AT MOST 1048576: true; the input reads as it did. -/
def stackWholeUptoRow : OpenClaim := { program := "ythlojiefnclgkaa", sum := "8887f16bc1072fd283f71f3ab2524d42c9394931231f6f182614318e6b880ab8", func := "rundale/rundalelaw6.StackWhole", spec := "stackWhole", unfollowed := true, recurses := true, apart := false, narrowed := true }
def StackWholeUptoSaid : Prop := stackWholeUptoRow.holds Try.pinned (OpenSpec.upto stackWholeSpec)

/-- 'rundalelaw11.RootsOnce', WHERE WHAT IT READS IS OF BULK AT MOST 1048576: true; the input reads as it did. -/
def rootsOnceUptoRow : OpenClaim := { program := "ythlojiefnclgkaa", sum := "8887f16bc1072fd283f71f3ab2524d42c9394931231f6f182614318e6b880ab8", func := "rundale/rundalelaw11.RootsOnce", spec := "rootsOnce", unfollowed := true, recurses := true, apart := false, narrowed := true }
def RootsOnceUptoSaid : Prop := rootsOnceUptoRow.holds Try.pinned (OpenSpec.upto rootsOnceSpec)

end Rows
end Go.Proofs.Ythlojiefnclgkaa
