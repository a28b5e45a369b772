/-
  No cell of these rows narrows 'for every input' (looked for: loops, veiled, ifaces, maps, wideKeys, modest, calm, conditions, laid).
  DERIVED. THE GIVEN ROWS OF THIS SEAT. 14 by the template 'for every input the law returns true; each argument reads behind the call as it read before'; 0 by the template 'total and deterministic' (their statements: YtendglgcimdcpaaTotals.lean).
  GIVEN WITH THE SEED: the statements are not yours to turn. If you find one false, say at which input.
  Laid BY PROGRAM, IN A SANDBOX (cutbox-rows.mjs): the forced cells as the released guide's own fill.sh prints them over the translation e69acc78c305fc8d… (all of the seat's roots in one cut). By AI agents, Wed Nov 11 2026. No macro, syntax, notation, axiom, sorry.
-/
import Derived.Test.YtendglgcimdcpaaChecked
import GoSem.Claim
import GoSem.ClaimJoined
import GoSem.ClaimMapViews
import Derived.JoinedTies
import Derived.KernelRfl
namespace Go.Proofs.Ytendglgcimdcpaa
/- THE CELL 'sum', in the pinned program and in every row, IS THE sha256 OF THE DUMP (.gsa) THAT YtendglgcimdcpaaProg.lean LOADS. Nothing in Lean hashes anything: it is a label: what it is worth is what the hold of that sum in a sandbox is worth. -/
noncomputable def Try.pinned : Pinned := { name := "ytendglgcimdcpaa", sum := "e69acc78c305fc8d11290f8efc43abc84a69b6cd3ac2dd7b8e6c32bc0d64cbd0", checked := Try.checked }
namespace Rows
def none {H : Type} : Left H := { results := [], args := [] }

/-- 'rundalelaw1.BitsSays': WHATEVER THE INPUT: true; the input reads as it did. -/
def bitsSaysSpec : ChangeSpec := { name := "bitsSays", fn := fun _ => fun
  | [d1, d2, d3, d4] => { results := [.lit (.bool true)], args := [d1, d2, d3, d4] }
  | _ => none }
def bitsSaysRow : OpenClaim := { program := "ytendglgcimdcpaa", sum := "e69acc78c305fc8d11290f8efc43abc84a69b6cd3ac2dd7b8e6c32bc0d64cbd0", func := "rundale/rundalelaw1.BitsSays", spec := "bitsSays", apart := false }
def BitsSaysSaid : Prop := bitsSaysRow.holds Try.pinned (OpenSpec.ofChange bitsSaysSpec)

/-- ITS FALSE NEIGHBOUR: 'it returns false'. Refute it at one input. -/
def bitsSaysWrong : ChangeSpec := { name := "bitsSays", fn := fun _ => fun
  | [d1, d2, d3, d4] => { results := [.lit (.bool false)], args := [d1, d2, d3, d4] }
  | _ => none }
def BitsSaysWrongFalsely : Prop := bitsSaysRow.holds Try.pinned (OpenSpec.ofChange bitsSaysWrong)

/-- 'rundalelaw1.BitsBack': WHATEVER THE INPUT: true; the input reads as it did. -/
def bitsBackSpec : ChangeSpec := { name := "bitsBack", fn := fun _ => fun
  | [d1, d2, d3, d4] => { results := [.lit (.bool true)], args := [d1, d2, d3, d4] }
  | _ => none }
def bitsBackRow : OpenClaim := { program := "ytendglgcimdcpaa", sum := "e69acc78c305fc8d11290f8efc43abc84a69b6cd3ac2dd7b8e6c32bc0d64cbd0", func := "rundale/rundalelaw1.BitsBack", spec := "bitsBack", apart := false }
def BitsBackSaid : Prop := bitsBackRow.holds Try.pinned (OpenSpec.ofChange bitsBackSpec)

/-- ITS FALSE NEIGHBOUR: 'it returns false'. Refute it at one input. -/
def bitsBackWrong : ChangeSpec := { name := "bitsBack", fn := fun _ => fun
  | [d1, d2, d3, d4] => { results := [.lit (.bool false)], args := [d1, d2, d3, d4] }
  | _ => none }
def BitsBackWrongFalsely : Prop := bitsBackRow.holds Try.pinned (OpenSpec.ofChange bitsBackWrong)

/-- 'rundalelaw1.BitsApart': WHATEVER THE INPUT: true; the input reads as it did. -/
def bitsApartSpec : ChangeSpec := { name := "bitsApart", fn := fun _ => fun
  | [d1, d2, d3, d4, d5, d6, d7] => { results := [.lit (.bool true)], args := [d1, d2, d3, d4, d5, d6, d7] }
  | _ => none }
def bitsApartRow : OpenClaim := { program := "ytendglgcimdcpaa", sum := "e69acc78c305fc8d11290f8efc43abc84a69b6cd3ac2dd7b8e6c32bc0d64cbd0", func := "rundale/rundalelaw1.BitsApart", spec := "bitsApart", apart := false }
def BitsApartSaid : Prop := bitsApartRow.holds Try.pinned (OpenSpec.ofChange bitsApartSpec)

/-- ITS FALSE NEIGHBOUR: 'it returns false'. Refute it at one input. -/
def bitsApartWrong : ChangeSpec := { name := "bitsApart", fn := fun _ => fun
  | [d1, d2, d3, d4, d5, d6, d7] => { results := [.lit (.bool false)], args := [d1, d2, d3, d4, d5, d6, d7] }
  | _ => none }
def BitsApartWrongFalsely : Prop := bitsApartRow.holds Try.pinned (OpenSpec.ofChange bitsApartWrong)

/-- 'rundalelaw1.BitsNone': WHATEVER THE INPUT: true; the input reads as it did. -/
def bitsNoneSpec : ChangeSpec := { name := "bitsNone", fn := fun _ => fun
  | [d1, d2, d3, d4] => { results := [.lit (.bool true)], args := [d1, d2, d3, d4] }
  | _ => none }
def bitsNoneRow : OpenClaim := { program := "ytendglgcimdcpaa", sum := "e69acc78c305fc8d11290f8efc43abc84a69b6cd3ac2dd7b8e6c32bc0d64cbd0", func := "rundale/rundalelaw1.BitsNone", spec := "bitsNone", apart := false }
def BitsNoneSaid : Prop := bitsNoneRow.holds Try.pinned (OpenSpec.ofChange bitsNoneSpec)

/-- ITS FALSE NEIGHBOUR: 'it returns false'. Refute it at one input. -/
def bitsNoneWrong : ChangeSpec := { name := "bitsNone", fn := fun _ => fun
  | [d1, d2, d3, d4] => { results := [.lit (.bool false)], args := [d1, d2, d3, d4] }
  | _ => none }
def BitsNoneWrongFalsely : Prop := bitsNoneRow.holds Try.pinned (OpenSpec.ofChange bitsNoneWrong)

/-- 'rundalelaw1.BitsMasks': WHATEVER THE INPUT: true; the input reads as it did. -/
def bitsMasksSpec : ChangeSpec := { name := "bitsMasks", fn := fun _ => fun
  | [d1, d2] => { results := [.lit (.bool true)], args := [d1, d2] }
  | _ => none }
def bitsMasksRow : OpenClaim := { program := "ytendglgcimdcpaa", sum := "e69acc78c305fc8d11290f8efc43abc84a69b6cd3ac2dd7b8e6c32bc0d64cbd0", func := "rundale/rundalelaw1.BitsMasks", spec := "bitsMasks", apart := false }
def BitsMasksSaid : Prop := bitsMasksRow.holds Try.pinned (OpenSpec.ofChange bitsMasksSpec)

/-- ITS FALSE NEIGHBOUR: 'it returns false'. Refute it at one input. -/
def bitsMasksWrong : ChangeSpec := { name := "bitsMasks", fn := fun _ => fun
  | [d1, d2] => { results := [.lit (.bool false)], args := [d1, d2] }
  | _ => none }
def BitsMasksWrongFalsely : Prop := bitsMasksRow.holds Try.pinned (OpenSpec.ofChange bitsMasksWrong)

/-- 'rundalelaw4.LayMay': WHATEVER THE INPUT: true; the input reads as it did. -/
def layMaySpec : ChangeSpec := { name := "layMay", fn := fun _ => fun
  | [d1, d2] => { results := [.lit (.bool true)], args := [d1, d2] }
  | _ => none }
def layMayRow : OpenClaim := { program := "ytendglgcimdcpaa", sum := "e69acc78c305fc8d11290f8efc43abc84a69b6cd3ac2dd7b8e6c32bc0d64cbd0", func := "rundale/rundalelaw4.LayMay", spec := "layMay", apart := false }
def LayMaySaid : Prop := layMayRow.holds Try.pinned (OpenSpec.ofChange layMaySpec)

/-- ITS FALSE NEIGHBOUR: 'it returns false'. Refute it at one input. -/
def layMayWrong : ChangeSpec := { name := "layMay", fn := fun _ => fun
  | [d1, d2] => { results := [.lit (.bool false)], args := [d1, d2] }
  | _ => none }
def LayMayWrongFalsely : Prop := layMayRow.holds Try.pinned (OpenSpec.ofChange layMayWrong)

/-- 'rundalelaw2.WordLives': WHATEVER THE INPUT: true; the input reads as it did. -/
def wordLivesSpec : ChangeSpec := { name := "wordLives", fn := fun _ => fun
  | [d1, d2] => { results := [.lit (.bool true)], args := [d1, d2] }
  | _ => none }
def wordLivesRow : OpenClaim := { program := "ytendglgcimdcpaa", sum := "e69acc78c305fc8d11290f8efc43abc84a69b6cd3ac2dd7b8e6c32bc0d64cbd0", func := "rundale/rundalelaw2.WordLives", spec := "wordLives", apart := false }
def WordLivesSaid : Prop := wordLivesRow.holds Try.pinned (OpenSpec.ofChange wordLivesSpec)

/-- ITS FALSE NEIGHBOUR: 'it returns false'. Refute it at one input. -/
def wordLivesWrong : ChangeSpec := { name := "wordLives", fn := fun _ => fun
  | [d1, d2] => { results := [.lit (.bool false)], args := [d1, d2] }
  | _ => none }
def WordLivesWrongFalsely : Prop := wordLivesRow.holds Try.pinned (OpenSpec.ofChange wordLivesWrong)

/-- 'rundalelaw2.WordTags': WHATEVER THE INPUT: true; the input reads as it did. -/
def wordTagsSpec : ChangeSpec := { name := "wordTags", fn := fun _ => fun
  | [d1, d2, d3] => { results := [.lit (.bool true)], args := [d1, d2, d3] }
  | _ => none }
def wordTagsRow : OpenClaim := { program := "ytendglgcimdcpaa", sum := "e69acc78c305fc8d11290f8efc43abc84a69b6cd3ac2dd7b8e6c32bc0d64cbd0", func := "rundale/rundalelaw2.WordTags", spec := "wordTags", apart := false }
def WordTagsSaid : Prop := wordTagsRow.holds Try.pinned (OpenSpec.ofChange wordTagsSpec)

/-- ITS FALSE NEIGHBOUR: 'it returns false'. Refute it at one input. -/
def wordTagsWrong : ChangeSpec := { name := "wordTags", fn := fun _ => fun
  | [d1, d2, d3] => { results := [.lit (.bool false)], args := [d1, d2, d3] }
  | _ => none }
def WordTagsWrongFalsely : Prop := wordTagsRow.holds Try.pinned (OpenSpec.ofChange wordTagsWrong)

/-- 'rundalelaw2.WordUnlike': WHATEVER THE INPUT: true; the input reads as it did. -/
def wordUnlikeSpec : ChangeSpec := { name := "wordUnlike", fn := fun _ => fun
  | [d1, d2, d3, d4, d5, d6] => { results := [.lit (.bool true)], args := [d1, d2, d3, d4, d5, d6] }
  | _ => none }
def wordUnlikeRow : OpenClaim := { program := "ytendglgcimdcpaa", sum := "e69acc78c305fc8d11290f8efc43abc84a69b6cd3ac2dd7b8e6c32bc0d64cbd0", func := "rundale/rundalelaw2.WordUnlike", spec := "wordUnlike", apart := false }
def WordUnlikeSaid : Prop := wordUnlikeRow.holds Try.pinned (OpenSpec.ofChange wordUnlikeSpec)

/-- ITS FALSE NEIGHBOUR: 'it returns false'. Refute it at one input. -/
def wordUnlikeWrong : ChangeSpec := { name := "wordUnlike", fn := fun _ => fun
  | [d1, d2, d3, d4, d5, d6] => { results := [.lit (.bool false)], args := [d1, d2, d3, d4, d5, d6] }
  | _ => none }
def WordUnlikeWrongFalsely : Prop := wordUnlikeRow.holds Try.pinned (OpenSpec.ofChange wordUnlikeWrong)

/-- 'rundalelaw2.WordBack': WHATEVER THE INPUT: true; the input reads as it did. -/
def wordBackSpec : ChangeSpec := { name := "wordBack", fn := fun _ => fun
  | [d1, d2, d3, d4] => { results := [.lit (.bool true)], args := [d1, d2, d3, d4] }
  | _ => none }
def wordBackRow : OpenClaim := { program := "ytendglgcimdcpaa", sum := "e69acc78c305fc8d11290f8efc43abc84a69b6cd3ac2dd7b8e6c32bc0d64cbd0", func := "rundale/rundalelaw2.WordBack", spec := "wordBack", apart := false }
def WordBackSaid : Prop := wordBackRow.holds Try.pinned (OpenSpec.ofChange wordBackSpec)

/-- ITS FALSE NEIGHBOUR: 'it returns false'. Refute it at one input. -/
def wordBackWrong : ChangeSpec := { name := "wordBack", fn := fun _ => fun
  | [d1, d2, d3, d4] => { results := [.lit (.bool false)], args := [d1, d2, d3, d4] }
  | _ => none }
def WordBackWrongFalsely : Prop := wordBackRow.holds Try.pinned (OpenSpec.ofChange wordBackWrong)

/-- 'rundalelaw2.WordSays': WHATEVER THE INPUT: true; the input reads as it did. -/
def wordSaysSpec : ChangeSpec := { name := "wordSays", fn := fun _ => fun
  | [d1, d2, d3, d4, d5] => { results := [.lit (.bool true)], args := [d1, d2, d3, d4, d5] }
  | _ => none }
def wordSaysRow : OpenClaim := { program := "ytendglgcimdcpaa", sum := "e69acc78c305fc8d11290f8efc43abc84a69b6cd3ac2dd7b8e6c32bc0d64cbd0", func := "rundale/rundalelaw2.WordSays", spec := "wordSays", apart := false }
def WordSaysSaid : Prop := wordSaysRow.holds Try.pinned (OpenSpec.ofChange wordSaysSpec)

/-- ITS FALSE NEIGHBOUR: 'it returns false'. Refute it at one input. -/
def wordSaysWrong : ChangeSpec := { name := "wordSays", fn := fun _ => fun
  | [d1, d2, d3, d4, d5] => { results := [.lit (.bool false)], args := [d1, d2, d3, d4, d5] }
  | _ => none }
def WordSaysWrongFalsely : Prop := wordSaysRow.holds Try.pinned (OpenSpec.ofChange wordSaysWrong)

/-- 'rundalelaw4.LaySays': WHATEVER THE INPUT: true; the input reads as it did. -/
def laySaysSpec : ChangeSpec := { name := "laySays", fn := fun _ => fun
  | [d1, d2, d3] => { results := [.lit (.bool true)], args := [d1, d2, d3] }
  | _ => none }
def laySaysRow : OpenClaim := { program := "ytendglgcimdcpaa", sum := "e69acc78c305fc8d11290f8efc43abc84a69b6cd3ac2dd7b8e6c32bc0d64cbd0", func := "rundale/rundalelaw4.LaySays", spec := "laySays", apart := false }
def LaySaysSaid : Prop := laySaysRow.holds Try.pinned (OpenSpec.ofChange laySaysSpec)

/-- ITS FALSE NEIGHBOUR: 'it returns false'. Refute it at one input. -/
def laySaysWrong : ChangeSpec := { name := "laySays", fn := fun _ => fun
  | [d1, d2, d3] => { results := [.lit (.bool false)], args := [d1, d2, d3] }
  | _ => none }
def LaySaysWrongFalsely : Prop := laySaysRow.holds Try.pinned (OpenSpec.ofChange laySaysWrong)

/-- 'rundalelaw4.LayWhole': WHATEVER THE INPUT: true; the input reads as it did. -/
def layWholeSpec : ChangeSpec := { name := "layWhole", fn := fun _ => fun
  | [d1, d2] => { results := [.lit (.bool true)], args := [d1, d2] }
  | _ => none }
def layWholeRow : OpenClaim := { program := "ytendglgcimdcpaa", sum := "e69acc78c305fc8d11290f8efc43abc84a69b6cd3ac2dd7b8e6c32bc0d64cbd0", func := "rundale/rundalelaw4.LayWhole", spec := "layWhole", apart := false }
def LayWholeSaid : Prop := layWholeRow.holds Try.pinned (OpenSpec.ofChange layWholeSpec)

/-- ITS FALSE NEIGHBOUR: 'it returns false'. Refute it at one input. -/
def layWholeWrong : ChangeSpec := { name := "layWhole", fn := fun _ => fun
  | [d1, d2] => { results := [.lit (.bool false)], args := [d1, d2] }
  | _ => none }
def LayWholeWrongFalsely : Prop := layWholeRow.holds Try.pinned (OpenSpec.ofChange layWholeWrong)

/-- 'rundalelaw4.LayApart': WHATEVER THE INPUT: true; the input reads as it did. -/
def layApartSpec : ChangeSpec := { name := "layApart", fn := fun _ => fun
  | [d1, d2, d3] => { results := [.lit (.bool true)], args := [d1, d2, d3] }
  | _ => none }
def layApartRow : OpenClaim := { program := "ytendglgcimdcpaa", sum := "e69acc78c305fc8d11290f8efc43abc84a69b6cd3ac2dd7b8e6c32bc0d64cbd0", func := "rundale/rundalelaw4.LayApart", spec := "layApart", apart := false }
def LayApartSaid : Prop := layApartRow.holds Try.pinned (OpenSpec.ofChange layApartSpec)

/-- ITS FALSE NEIGHBOUR: 'it returns false'. Refute it at one input. -/
def layApartWrong : ChangeSpec := { name := "layApart", fn := fun _ => fun
  | [d1, d2, d3] => { results := [.lit (.bool false)], args := [d1, d2, d3] }
  | _ => none }
def LayApartWrongFalsely : Prop := layApartRow.holds Try.pinned (OpenSpec.ofChange layApartWrong)

/- THE SECOND FORM. 'bulk': how many values and letters a reading holds, each counted each time it is reached (what is shared counts as often as it is met; a slice's spare places count too). A statement '..UptoSaid' is the law's where the arguments, and the package variables that the reading takes, are together of bulk at most 1048576: NARROWER than '..Said'. Prove '..Said' where nothing that the law and all that it calls make is longer than what came in: it says more and counts as full. Else prove '..UptoSaid'. A law counts once. -/
mutual
def uptoBulk {H : Type} : DataW H → Nat
  | .lit (.string bytes) => bytes.length + 1
  | .lit _ => 1
  | .nil => 1
  | .ptr d => uptoBulk d + 1
  | .slice elems spare => uptoBulkAll elems + uptoBulkAll spare + 1
  | .agg parts => uptoBulkAll parts + 1
  | .iface _ d => uptoBulk d + 1
  | .map entries => uptoBulkEntries entries + 1
  | .held _ => 1
def uptoBulkAll {H : Type} : List (DataW H) → Nat
  | [] => 0
  | d :: r => uptoBulk d + uptoBulkAll r
def uptoBulkEntries {H : Type} : List (Lit × DataW H) → Nat
  | [] => 0
  | x :: r => uptoBulkEntry x + uptoBulkEntries r
def uptoBulkEntry {H : Type} : Lit × DataW H → Nat
  | (.string bytes, d) => bytes.length + uptoBulk d + 1
  | (_, d) => uptoBulk d + 1
 end
def uptoSmall : (H : Type) → List (DataW H) → Bool := fun _ ds => decide (uptoBulkAll ds ≤ 1048576)
def OpenSpec.upto (s : _root_.Go.ChangeSpec) : _root_.Go.OpenSpec := { _root_.Go.OpenSpec.ofChange s with cond := some uptoSmall }

/-- 'rundalelaw1.BitsSays', WHERE WHAT IT READS IS OF BULK AT MOST 1048576: true; the input reads as it did. -/
def bitsSaysUptoRow : OpenClaim := { program := "ytendglgcimdcpaa", sum := "e69acc78c305fc8d11290f8efc43abc84a69b6cd3ac2dd7b8e6c32bc0d64cbd0", func := "rundale/rundalelaw1.BitsSays", spec := "bitsSays", apart := false, narrowed := true }
def BitsSaysUptoSaid : Prop := bitsSaysUptoRow.holds Try.pinned (OpenSpec.upto bitsSaysSpec)

/-- 'rundalelaw1.BitsBack', WHERE WHAT IT READS IS OF BULK AT MOST 1048576: true; the input reads as it did. -/
def bitsBackUptoRow : OpenClaim := { program := "ytendglgcimdcpaa", sum := "e69acc78c305fc8d11290f8efc43abc84a69b6cd3ac2dd7b8e6c32bc0d64cbd0", func := "rundale/rundalelaw1.BitsBack", spec := "bitsBack", apart := false, narrowed := true }
def BitsBackUptoSaid : Prop := bitsBackUptoRow.holds Try.pinned (OpenSpec.upto bitsBackSpec)

/-- 'rundalelaw1.BitsApart', WHERE WHAT IT READS IS OF BULK AT MOST 1048576: true; the input reads as it did. -/
def bitsApartUptoRow : OpenClaim := { program := "ytendglgcimdcpaa", sum := "e69acc78c305fc8d11290f8efc43abc84a69b6cd3ac2dd7b8e6c32bc0d64cbd0", func := "rundale/rundalelaw1.BitsApart", spec := "bitsApart", apart := false, narrowed := true }
def BitsApartUptoSaid : Prop := bitsApartUptoRow.holds Try.pinned (OpenSpec.upto bitsApartSpec)

/-- 'rundalelaw1.BitsNone', WHERE WHAT IT READS IS OF BULK AT MOST 1048576: true; the input reads as it did. -/
def bitsNoneUptoRow : OpenClaim := { program := "ytendglgcimdcpaa", sum := "e69acc78c305fc8d11290f8efc43abc84a69b6cd3ac2dd7b8e6c32bc0d64cbd0", func := "rundale/rundalelaw1.BitsNone", spec := "bitsNone", apart := false, narrowed := true }
def BitsNoneUptoSaid : Prop := bitsNoneUptoRow.holds Try.pinned (OpenSpec.upto bitsNoneSpec)

/-- 'rundalelaw1.BitsMasks', WHERE WHAT IT READS IS OF BULK AT MOST 1048576: true; the input reads as it did. -/
def bitsMasksUptoRow : OpenClaim := { program := "ytendglgcimdcpaa", sum := "e69acc78c305fc8d11290f8efc43abc84a69b6cd3ac2dd7b8e6c32bc0d64cbd0", func := "rundale/rundalelaw1.BitsMasks", spec := "bitsMasks", apart := false, narrowed := true }
def BitsMasksUptoSaid : Prop := bitsMasksUptoRow.holds Try.pinned (OpenSpec.upto bitsMasksSpec)

/-- 'rundalelaw4.LayMay', WHERE WHAT IT READS IS OF BULK AT MOST 1048576: true; the input reads as it did. -/
def layMayUptoRow : OpenClaim := { program := "ytendglgcimdcpaa", sum := "e69acc78c305fc8d11290f8efc43abc84a69b6cd3ac2dd7b8e6c32bc0d64cbd0", func := "rundale/rundalelaw4.LayMay", spec := "layMay", apart := false, narrowed := true }
def LayMayUptoSaid : Prop := layMayUptoRow.holds Try.pinned (OpenSpec.upto layMaySpec)

/-- 'rundalelaw2.WordLives', WHERE WHAT IT READS IS OF BULK AT MOST 1048576: true; the input reads as it did. -/
def wordLivesUptoRow : OpenClaim := { program := "ytendglgcimdcpaa", sum := "e69acc78c305fc8d11290f8efc43abc84a69b6cd3ac2dd7b8e6c32bc0d64cbd0", func := "rundale/rundalelaw2.WordLives", spec := "wordLives", apart := false, narrowed := true }
def WordLivesUptoSaid : Prop := wordLivesUptoRow.holds Try.pinned (OpenSpec.upto wordLivesSpec)

/-- 'rundalelaw2.WordTags', WHERE WHAT IT READS IS OF BULK AT MOST 1048576: true; the input reads as it did. -/
def wordTagsUptoRow : OpenClaim := { program := "ytendglgcimdcpaa", sum := "e69acc78c305fc8d11290f8efc43abc84a69b6cd3ac2dd7b8e6c32bc0d64cbd0", func := "rundale/rundalelaw2.WordTags", spec := "wordTags", apart := false, narrowed := true }
def WordTagsUptoSaid : Prop := wordTagsUptoRow.holds Try.pinned (OpenSpec.upto wordTagsSpec)

/-- 'rundalelaw2.WordUnlike', WHERE WHAT IT READS IS OF BULK AT MOST 1048576: true; the input reads as it did. -/
def wordUnlikeUptoRow : OpenClaim := { program := "ytendglgcimdcpaa", sum := "e69acc78c305fc8d11290f8efc43abc84a69b6cd3ac2dd7b8e6c32bc0d64cbd0", func := "rundale/rundalelaw2.WordUnlike", spec := "wordUnlike", apart := false, narrowed := true }
def WordUnlikeUptoSaid : Prop := wordUnlikeUptoRow.holds Try.pinned (OpenSpec.upto wordUnlikeSpec)

/-- 'rundalelaw2.WordBack', WHERE WHAT IT READS IS OF BULK AT MOST 1048576: true; the input reads as it did. -/
def wordBackUptoRow : OpenClaim := { program := "ytendglgcimdcpaa", sum := "e69acc78c305fc8d11290f8efc43abc84a69b6cd3ac2dd7b8e6c32bc0d64cbd0", func := "rundale/rundalelaw2.WordBack", spec := "wordBack", apart := false, narrowed := true }
def WordBackUptoSaid : Prop := wordBackUptoRow.holds Try.pinned (OpenSpec.upto wordBackSpec)

/-- 'rundalelaw2.WordSays', WHERE WHAT IT READS IS OF BULK AT MOST 1048576: true; the input reads as it did. -/
def wordSaysUptoRow : OpenClaim := { program := "ytendglgcimdcpaa", sum := "e69acc78c305fc8d11290f8efc43abc84a69b6cd3ac2dd7b8e6c32bc0d64cbd0", func := "rundale/rundalelaw2.WordSays", spec := "wordSays", apart := false, narrowed := true }
def WordSaysUptoSaid : Prop := wordSaysUptoRow.holds Try.pinned (OpenSpec.upto wordSaysSpec)

/-- 'rundalelaw4.LaySays', WHERE WHAT IT READS IS OF BULK AT MOST 1048576: true; the input reads as it did. -/
def laySaysUptoRow : OpenClaim := { program := "ytendglgcimdcpaa", sum := "e69acc78c305fc8d11290f8efc43abc84a69b6cd3ac2dd7b8e6c32bc0d64cbd0", func := "rundale/rundalelaw4.LaySays", spec := "laySays", apart := false, narrowed := true }
def LaySaysUptoSaid : Prop := laySaysUptoRow.holds Try.pinned (OpenSpec.upto laySaysSpec)

/-- 'rundalelaw4.LayWhole', WHERE WHAT IT READS IS OF BULK AT MOST 1048576: true; the input reads as it did. -/
def layWholeUptoRow : OpenClaim := { program := "ytendglgcimdcpaa", sum := "e69acc78c305fc8d11290f8efc43abc84a69b6cd3ac2dd7b8e6c32bc0d64cbd0", func := "rundale/rundalelaw4.LayWhole", spec := "layWhole", apart := false, narrowed := true }
def LayWholeUptoSaid : Prop := layWholeUptoRow.holds Try.pinned (OpenSpec.upto layWholeSpec)

/-- 'rundalelaw4.LayApart', WHERE WHAT IT READS IS OF BULK AT MOST 1048576: true; the input reads as it did. -/
def layApartUptoRow : OpenClaim := { program := "ytendglgcimdcpaa", sum := "e69acc78c305fc8d11290f8efc43abc84a69b6cd3ac2dd7b8e6c32bc0d64cbd0", func := "rundale/rundalelaw4.LayApart", spec := "layApart", apart := false, narrowed := true }
def LayApartUptoSaid : Prop := layApartUptoRow.holds Try.pinned (OpenSpec.upto layApartSpec)

end Rows
end Go.Proofs.Ytendglgcimdcpaa
