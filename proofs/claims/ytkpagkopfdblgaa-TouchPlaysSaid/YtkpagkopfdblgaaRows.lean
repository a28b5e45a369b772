/-
  No cell of these rows narrows 'for every input' (looked for: loops, veiled, ifaces, maps, wideKeys, modest, calm, conditions, laid).
  DERIVED. THE GIVEN ROWS OF THIS SEAT. 11 by the template 'for every input the law returns true; each argument reads behind the call as it read before'; 0 by the template 'total and deterministic' (their statements: YtkpagkopfdblgaaTotals.lean).
  GIVEN WITH THE SEED: the statements are not yours to turn. If you find one false, say at which input.
  Laid BY PROGRAM, IN A SANDBOX (cutbox-rows.mjs): the forced cells as the released guide's own fill.sh prints them over the translation b98f437e7070bf60… (all of the seat's roots in one cut). By AI agents, Wed Nov 11 2026. No macro, syntax, notation, axiom, sorry.
-/
import Derived.Test.YtkpagkopfdblgaaChecked
import GoSem.Claim
import GoSem.ClaimJoined
import GoSem.ClaimMapViews
import Derived.JoinedTies
import Derived.KernelRfl
namespace Go.Proofs.Ytkpagkopfdblgaa
/- THE CELL 'sum', in the pinned program and in every row, IS THE sha256 OF THE DUMP (.gsa) THAT YtkpagkopfdblgaaProg.lean LOADS. Nothing in Lean hashes anything: it is a label: what it is worth is what the hold of that sum in a sandbox is worth. -/
noncomputable def Try.pinned : Pinned := { name := "ytkpagkopfdblgaa", sum := "b98f437e7070bf605bd119ea6aff543832f96a6d0c786e2e328f5eb845f208c9", checked := Try.checked }
namespace Rows
def none {H : Type} : Left H := { results := [], args := [] }

/-- 'rundalelaw2.WordTags': WHATEVER THE INPUT: true; the input reads as it did. -/
def wordTagsSpec : ChangeSpec := { name := "wordTags", fn := fun _ => fun
  | [d1, d2, d3] => { results := [.lit (.bool true)], args := [d1, d2, d3] }
  | _ => none }
def wordTagsRow : OpenClaim := { program := "ytkpagkopfdblgaa", sum := "b98f437e7070bf605bd119ea6aff543832f96a6d0c786e2e328f5eb845f208c9", func := "rundale/rundalelaw2.WordTags", spec := "wordTags", apart := false }
def WordTagsSaid : Prop := wordTagsRow.holds Try.pinned (OpenSpec.ofChange wordTagsSpec)

/-- ITS FALSE NEIGHBOUR: 'it returns false'. Refute it at one input. -/
def wordTagsWrong : ChangeSpec := { name := "wordTags", fn := fun _ => fun
  | [d1, d2, d3] => { results := [.lit (.bool false)], args := [d1, d2, d3] }
  | _ => none }
def WordTagsWrongFalsely : Prop := wordTagsRow.holds Try.pinned (OpenSpec.ofChange wordTagsWrong)

/-- 'rundalelaw2.WordSays': WHATEVER THE INPUT: true; the input reads as it did. -/
def wordSaysSpec : ChangeSpec := { name := "wordSays", fn := fun _ => fun
  | [d1, d2, d3, d4, d5] => { results := [.lit (.bool true)], args := [d1, d2, d3, d4, d5] }
  | _ => none }
def wordSaysRow : OpenClaim := { program := "ytkpagkopfdblgaa", sum := "b98f437e7070bf605bd119ea6aff543832f96a6d0c786e2e328f5eb845f208c9", func := "rundale/rundalelaw2.WordSays", spec := "wordSays", apart := false }
def WordSaysSaid : Prop := wordSaysRow.holds Try.pinned (OpenSpec.ofChange wordSaysSpec)

/-- ITS FALSE NEIGHBOUR: 'it returns false'. Refute it at one input. -/
def wordSaysWrong : ChangeSpec := { name := "wordSays", fn := fun _ => fun
  | [d1, d2, d3, d4, d5] => { results := [.lit (.bool false)], args := [d1, d2, d3, d4, d5] }
  | _ => none }
def WordSaysWrongFalsely : Prop := wordSaysRow.holds Try.pinned (OpenSpec.ofChange wordSaysWrong)

/-- 'rundalelaw5.CellsPlay': WHATEVER THE INPUT: true; the input reads as it did. -/
def cellsPlaySpec : ChangeSpec := { name := "cellsPlay", fn := fun _ => fun
  | [d1, d2] => { results := [.lit (.bool true)], args := [d1, d2] }
  | _ => none }
def cellsPlayRow : OpenClaim := { program := "ytkpagkopfdblgaa", sum := "b98f437e7070bf605bd119ea6aff543832f96a6d0c786e2e328f5eb845f208c9", func := "rundale/rundalelaw5.CellsPlay", spec := "cellsPlay", apart := false }
def CellsPlaySaid : Prop := cellsPlayRow.holds Try.pinned (OpenSpec.ofChange cellsPlaySpec)

/-- ITS FALSE NEIGHBOUR: 'it returns false'. Refute it at one input. -/
def cellsPlayWrong : ChangeSpec := { name := "cellsPlay", fn := fun _ => fun
  | [d1, d2] => { results := [.lit (.bool false)], args := [d1, d2] }
  | _ => none }
def CellsPlayWrongFalsely : Prop := cellsPlayRow.holds Try.pinned (OpenSpec.ofChange cellsPlayWrong)

/-- 'rundalelaw9.EpochWins': WHATEVER THE INPUT: true; the input reads as it did. -/
def epochWinsSpec : ChangeSpec := { name := "epochWins", fn := fun _ => fun
  | [d1, d2] => { results := [.lit (.bool true)], args := [d1, d2] }
  | _ => none }
def epochWinsRow : OpenClaim := { program := "ytkpagkopfdblgaa", sum := "b98f437e7070bf605bd119ea6aff543832f96a6d0c786e2e328f5eb845f208c9", func := "rundale/rundalelaw9.EpochWins", spec := "epochWins", unfollowed := true, recurses := true, apart := false }
def EpochWinsSaid : Prop := epochWinsRow.holds Try.pinned (OpenSpec.ofChange epochWinsSpec)

/-- ITS FALSE NEIGHBOUR: 'it returns false'. Refute it at one input. -/
def epochWinsWrong : ChangeSpec := { name := "epochWins", fn := fun _ => fun
  | [d1, d2] => { results := [.lit (.bool false)], args := [d1, d2] }
  | _ => none }
def EpochWinsWrongFalsely : Prop := epochWinsRow.holds Try.pinned (OpenSpec.ofChange epochWinsWrong)

/-- 'rundalelaw9.EpochBars': WHATEVER THE INPUT: true; the input reads as it did. -/
def epochBarsSpec : ChangeSpec := { name := "epochBars", fn := fun _ => fun
  | [d1, d2, d3] => { results := [.lit (.bool true)], args := [d1, d2, d3] }
  | _ => none }
def epochBarsRow : OpenClaim := { program := "ytkpagkopfdblgaa", sum := "b98f437e7070bf605bd119ea6aff543832f96a6d0c786e2e328f5eb845f208c9", func := "rundale/rundalelaw9.EpochBars", spec := "epochBars", unfollowed := true, recurses := true, apart := false }
def EpochBarsSaid : Prop := epochBarsRow.holds Try.pinned (OpenSpec.ofChange epochBarsSpec)

/-- ITS FALSE NEIGHBOUR: 'it returns false'. Refute it at one input. -/
def epochBarsWrong : ChangeSpec := { name := "epochBars", fn := fun _ => fun
  | [d1, d2, d3] => { results := [.lit (.bool false)], args := [d1, d2, d3] }
  | _ => none }
def EpochBarsWrongFalsely : Prop := epochBarsRow.holds Try.pinned (OpenSpec.ofChange epochBarsWrong)

/-- 'rundalelaw16.TouchNone': WHATEVER THE INPUT: true; the input reads as it did. -/
def touchNoneSpec : ChangeSpec := { name := "touchNone", fn := fun _ => fun
  | [d1, d2, d3, d4] => { results := [.lit (.bool true)], args := [d1, d2, d3, d4] }
  | _ => none }
def touchNoneRow : OpenClaim := { program := "ytkpagkopfdblgaa", sum := "b98f437e7070bf605bd119ea6aff543832f96a6d0c786e2e328f5eb845f208c9", func := "rundale/rundalelaw16.TouchNone", spec := "touchNone", unfollowed := true, recurses := true, apart := false }
def TouchNoneSaid : Prop := touchNoneRow.holds Try.pinned (OpenSpec.ofChange touchNoneSpec)

/-- ITS FALSE NEIGHBOUR: 'it returns false'. Refute it at one input. -/
def touchNoneWrong : ChangeSpec := { name := "touchNone", fn := fun _ => fun
  | [d1, d2, d3, d4] => { results := [.lit (.bool false)], args := [d1, d2, d3, d4] }
  | _ => none }
def TouchNoneWrongFalsely : Prop := touchNoneRow.holds Try.pinned (OpenSpec.ofChange touchNoneWrong)

/-- 'rundalelaw16.TouchApart': WHATEVER THE INPUT: true; the input reads as it did. -/
def touchApartSpec : ChangeSpec := { name := "touchApart", fn := fun _ => fun
  | [d1, d2, d3, d4] => { results := [.lit (.bool true)], args := [d1, d2, d3, d4] }
  | _ => none }
def touchApartRow : OpenClaim := { program := "ytkpagkopfdblgaa", sum := "b98f437e7070bf605bd119ea6aff543832f96a6d0c786e2e328f5eb845f208c9", func := "rundale/rundalelaw16.TouchApart", spec := "touchApart", unfollowed := true, recurses := true, apart := false }
def TouchApartSaid : Prop := touchApartRow.holds Try.pinned (OpenSpec.ofChange touchApartSpec)

/-- ITS FALSE NEIGHBOUR: 'it returns false'. Refute it at one input. -/
def touchApartWrong : ChangeSpec := { name := "touchApart", fn := fun _ => fun
  | [d1, d2, d3, d4] => { results := [.lit (.bool false)], args := [d1, d2, d3, d4] }
  | _ => none }
def TouchApartWrongFalsely : Prop := touchApartRow.holds Try.pinned (OpenSpec.ofChange touchApartWrong)

/-- 'rundalelaw16.TouchOrder': WHATEVER THE INPUT: true; the input reads as it did. -/
def touchOrderSpec : ChangeSpec := { name := "touchOrder", fn := fun _ => fun
  | [d1, d2, d3] => { results := [.lit (.bool true)], args := [d1, d2, d3] }
  | _ => none }
def touchOrderRow : OpenClaim := { program := "ytkpagkopfdblgaa", sum := "b98f437e7070bf605bd119ea6aff543832f96a6d0c786e2e328f5eb845f208c9", func := "rundale/rundalelaw16.TouchOrder", spec := "touchOrder", unfollowed := true, recurses := true, apart := false }
def TouchOrderSaid : Prop := touchOrderRow.holds Try.pinned (OpenSpec.ofChange touchOrderSpec)

/-- ITS FALSE NEIGHBOUR: 'it returns false'. Refute it at one input. -/
def touchOrderWrong : ChangeSpec := { name := "touchOrder", fn := fun _ => fun
  | [d1, d2, d3] => { results := [.lit (.bool false)], args := [d1, d2, d3] }
  | _ => none }
def TouchOrderWrongFalsely : Prop := touchOrderRow.holds Try.pinned (OpenSpec.ofChange touchOrderWrong)

/-- 'rundalelaw16.TouchPlays': WHATEVER THE INPUT: true; the input reads as it did. -/
def touchPlaysSpec : ChangeSpec := { name := "touchPlays", fn := fun _ => fun
  | [d1, d2] => { results := [.lit (.bool true)], args := [d1, d2] }
  | _ => none }
def touchPlaysRow : OpenClaim := { program := "ytkpagkopfdblgaa", sum := "b98f437e7070bf605bd119ea6aff543832f96a6d0c786e2e328f5eb845f208c9", func := "rundale/rundalelaw16.TouchPlays", spec := "touchPlays", unfollowed := true, recurses := true, apart := false }
def TouchPlaysSaid : Prop := touchPlaysRow.holds Try.pinned (OpenSpec.ofChange touchPlaysSpec)

/-- ITS FALSE NEIGHBOUR: 'it returns false'. Refute it at one input. -/
def touchPlaysWrong : ChangeSpec := { name := "touchPlays", fn := fun _ => fun
  | [d1, d2] => { results := [.lit (.bool false)], args := [d1, d2] }
  | _ => none }
def TouchPlaysWrongFalsely : Prop := touchPlaysRow.holds Try.pinned (OpenSpec.ofChange touchPlaysWrong)

/-- 'rundalelaw9.EpochHolds': WHATEVER THE INPUT: true; the input reads as it did. -/
def epochHoldsSpec : ChangeSpec := { name := "epochHolds", fn := fun _ => fun
  | [d1, d2] => { results := [.lit (.bool true)], args := [d1, d2] }
  | _ => none }
def epochHoldsRow : OpenClaim := { program := "ytkpagkopfdblgaa", sum := "b98f437e7070bf605bd119ea6aff543832f96a6d0c786e2e328f5eb845f208c9", func := "rundale/rundalelaw9.EpochHolds", spec := "epochHolds", unfollowed := true, recurses := true, apart := false }
def EpochHoldsSaid : Prop := epochHoldsRow.holds Try.pinned (OpenSpec.ofChange epochHoldsSpec)

/-- ITS FALSE NEIGHBOUR: 'it returns false'. Refute it at one input. -/
def epochHoldsWrong : ChangeSpec := { name := "epochHolds", fn := fun _ => fun
  | [d1, d2] => { results := [.lit (.bool false)], args := [d1, d2] }
  | _ => none }
def EpochHoldsWrongFalsely : Prop := epochHoldsRow.holds Try.pinned (OpenSpec.ofChange epochHoldsWrong)

/-- 'rundalelaw9.EpochNone': WHATEVER THE INPUT: true; the input reads as it did. -/
def epochNoneSpec : ChangeSpec := { name := "epochNone", fn := fun _ => fun
  | [d1, d2, d3, d4] => { results := [.lit (.bool true)], args := [d1, d2, d3, d4] }
  | _ => none }
def epochNoneRow : OpenClaim := { program := "ytkpagkopfdblgaa", sum := "b98f437e7070bf605bd119ea6aff543832f96a6d0c786e2e328f5eb845f208c9", func := "rundale/rundalelaw9.EpochNone", spec := "epochNone", unfollowed := true, recurses := true, apart := false }
def EpochNoneSaid : Prop := epochNoneRow.holds Try.pinned (OpenSpec.ofChange epochNoneSpec)

/-- ITS FALSE NEIGHBOUR: 'it returns false'. Refute it at one input. -/
def epochNoneWrong : ChangeSpec := { name := "epochNone", fn := fun _ => fun
  | [d1, d2, d3, d4] => { results := [.lit (.bool false)], args := [d1, d2, d3, d4] }
  | _ => none }
def EpochNoneWrongFalsely : Prop := epochNoneRow.holds Try.pinned (OpenSpec.ofChange epochNoneWrong)

/- THE SECOND FORM. 'bulk': how many values and letters a reading holds, each counted each time it is reached (what is shared counts as often as it is met; a slice's spare places count too). A statement '..UptoSaid' is the law's where the arguments, and the package variables that the reading takes, are together of bulk at most 1048576: NARROWER than '..Said'. Prove '..Said' where nothing that the law and all that it calls make is longer than what came in: it says more and counts as full. Else prove '..UptoSaid'. A law counts once. -/
mutual
def uptoBulk {H : Type} : DataW H → Nat
  | .lit (.string bytes) => bytes.length + 1
  | .lit _ => 1
  | .nil => 1
  | .ptr d => uptoBulk d + 1
  | .slice elems spare => uptoBulkAll elems + uptoBulkAll spare + 1
  | .agg parts => uptoBulkAll parts + 1
  | .iface _ d => uptoBulk d + 1
  | .map entries => uptoBulkEntries entries + 1
  | .held _ => 1
def uptoBulkAll {H : Type} : List (DataW H) → Nat
  | [] => 0
  | d :: r => uptoBulk d + uptoBulkAll r
def uptoBulkEntries {H : Type} : List (Lit × DataW H) → Nat
  | [] => 0
  | x :: r => uptoBulkEntry x + uptoBulkEntries r
def uptoBulkEntry {H : Type} : Lit × DataW H → Nat
  | (.string bytes, d) => bytes.length + uptoBulk d + 1
  | (_, d) => uptoBulk d + 1
 end
def uptoSmall : (H : Type) → List (DataW H) → Bool := fun _ ds => decide (uptoBulkAll ds ≤ 1048576)
def OpenSpec.upto (s : _root_.Go.ChangeSpec) : _root_.Go.OpenSpec := { _root_.Go.OpenSpec.ofChange s with cond := some uptoSmall }

/-- 'rundalelaw2.WordTags', WHERE WHAT IT READS IS OF BULK AT MOST 1048576: true; the input reads as it did. -/
def wordTagsUptoRow : OpenClaim := { program := "ytkpagkopfdblgaa", sum := "b98f437e7070bf605bd119ea6aff543832f96a6d0c786e2e328f5eb845f208c9", func := "rundale/rundalelaw2.WordTags", spec := "wordTags", apart := false, narrowed := true }
def WordTagsUptoSaid : Prop := wordTagsUptoRow.holds Try.pinned (OpenSpec.upto wordTagsSpec)

/-- 'rundalelaw2.WordSays', WHERE WHAT IT READS IS OF BULK AT MOST 1048576: true; the input reads as it did. -/
def wordSaysUptoRow : OpenClaim := { program := "ytkpagkopfdblgaa", sum := "b98f437e7070bf605bd119ea6aff543832f96a6d0c786e2e328f5eb845f208c9", func := "rundale/rundalelaw2.WordSays", spec := "wordSays", apart := false, narrowed := true }
def WordSaysUptoSaid : Prop := wordSaysUptoRow.holds Try.pinned (OpenSpec.upto wordSaysSpec)

/-- 'rundalelaw5.CellsPlay', WHERE WHAT IT READS IS OF BULK AT MOST 1048576: true; the input reads as it did. -/
def cellsPlayUptoRow : OpenClaim := { program := "ytkpagkopfdblgaa", sum := "b98f437e7070bf605bd119ea6aff543832f96a6d0c786e2e328f5eb845f208c9", func := "rundale/rundalelaw5.CellsPlay", spec := "cellsPlay", apart := false, narrowed := true }
def CellsPlayUptoSaid : Prop := cellsPlayUptoRow.holds Try.pinned (OpenSpec.upto cellsPlaySpec)

/-- 'rundalelaw9.EpochWins', WHERE WHAT IT READS IS OF BULK AT MOST 1048576: true; the input reads as it did. -/
def epochWinsUptoRow : OpenClaim := { program := "ytkpagkopfdblgaa", sum := "b98f437e7070bf605bd119ea6aff543832f96a6d0c786e2e328f5eb845f208c9", func := "rundale/rundalelaw9.EpochWins", spec := "epochWins", unfollowed := true, recurses := true, apart := false, narrowed := true }
def EpochWinsUptoSaid : Prop := epochWinsUptoRow.holds Try.pinned (OpenSpec.upto epochWinsSpec)

/-- 'rundalelaw9.EpochBars', WHERE WHAT IT READS IS OF BULK AT MOST 1048576: true; the input reads as it did. -/
def epochBarsUptoRow : OpenClaim := { program := "ytkpagkopfdblgaa", sum := "b98f437e7070bf605bd119ea6aff543832f96a6d0c786e2e328f5eb845f208c9", func := "rundale/rundalelaw9.EpochBars", spec := "epochBars", unfollowed := true, recurses := true, apart := false, narrowed := true }
def EpochBarsUptoSaid : Prop := epochBarsUptoRow.holds Try.pinned (OpenSpec.upto epochBarsSpec)

/-- 'rundalelaw16.TouchNone', WHERE WHAT IT READS IS OF BULK AT MOST 1048576: true; the input reads as it did. -/
def touchNoneUptoRow : OpenClaim := { program := "ytkpagkopfdblgaa", sum := "b98f437e7070bf605bd119ea6aff543832f96a6d0c786e2e328f5eb845f208c9", func := "rundale/rundalelaw16.TouchNone", spec := "touchNone", unfollowed := true, recurses := true, apart := false, narrowed := true }
def TouchNoneUptoSaid : Prop := touchNoneUptoRow.holds Try.pinned (OpenSpec.upto touchNoneSpec)

/-- 'rundalelaw16.TouchApart', WHERE WHAT IT READS IS OF BULK AT MOST 1048576: true; the input reads as it did. -/
def touchApartUptoRow : OpenClaim := { program := "ytkpagkopfdblgaa", sum := "b98f437e7070bf605bd119ea6aff543832f96a6d0c786e2e328f5eb845f208c9", func := "rundale/rundalelaw16.TouchApart", spec := "touchApart", unfollowed := true, recurses := true, apart := false, narrowed := true }
def TouchApartUptoSaid : Prop := touchApartUptoRow.holds Try.pinned (OpenSpec.upto touchApartSpec)

/-- 'rundalelaw16.TouchOrder', WHERE WHAT IT READS IS OF BULK AT MOST 1048576: true; the input reads as it did. -/
def touchOrderUptoRow : OpenClaim := { program := "ytkpagkopfdblgaa", sum := "b98f437e7070bf605bd119ea6aff543832f96a6d0c786e2e328f5eb845f208c9", func := "rundale/rundalelaw16.TouchOrder", spec := "touchOrder", unfollowed := true, recurses := true, apart := false, narrowed := true }
def TouchOrderUptoSaid : Prop := touchOrderUptoRow.holds Try.pinned (OpenSpec.upto touchOrderSpec)

/-- 'rundalelaw16.TouchPlays', WHERE WHAT IT READS IS OF BULK AT MOST 1048576: true; the input reads as it did. -/
def touchPlaysUptoRow : OpenClaim := { program := "ytkpagkopfdblgaa", sum := "b98f437e7070bf605bd119ea6aff543832f96a6d0c786e2e328f5eb845f208c9", func := "rundale/rundalelaw16.TouchPlays", spec := "touchPlays", unfollowed := true, recurses := true, apart := false, narrowed := true }
def TouchPlaysUptoSaid : Prop := touchPlaysUptoRow.holds Try.pinned (OpenSpec.upto touchPlaysSpec)

/-- 'rundalelaw9.EpochHolds', WHERE WHAT IT READS IS OF BULK AT MOST 1048576: true; the input reads as it did. -/
def epochHoldsUptoRow : OpenClaim := { program := "ytkpagkopfdblgaa", sum := "b98f437e7070bf605bd119ea6aff543832f96a6d0c786e2e328f5eb845f208c9", func := "rundale/rundalelaw9.EpochHolds", spec := "epochHolds", unfollowed := true, recurses := true, apart := false, narrowed := true }
def EpochHoldsUptoSaid : Prop := epochHoldsUptoRow.holds Try.pinned (OpenSpec.upto epochHoldsSpec)

/-- 'rundalelaw9.EpochNone', WHERE WHAT IT READS IS OF BULK AT MOST 1048576: true; the input reads as it did. -/
def epochNoneUptoRow : OpenClaim := { program := "ytkpagkopfdblgaa", sum := "b98f437e7070bf605bd119ea6aff543832f96a6d0c786e2e328f5eb845f208c9", func := "rundale/rundalelaw9.EpochNone", spec := "epochNone", unfollowed := true, recurses := true, apart := false, narrowed := true }
def EpochNoneUptoSaid : Prop := epochNoneUptoRow.holds Try.pinned (OpenSpec.upto epochNoneSpec)

end Rows
end Go.Proofs.Ytkpagkopfdblgaa
