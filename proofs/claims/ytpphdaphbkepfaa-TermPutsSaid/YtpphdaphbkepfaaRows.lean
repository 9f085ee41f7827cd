/-
  No cell of these rows narrows 'for every input' (looked for: loops, veiled, ifaces, maps, wideKeys, modest, calm, conditions, laid).
  DERIVED. THE GIVEN ROWS OF THIS SEAT. 11 by the template 'for every input the law returns true; each argument reads behind the call as it read before'; 0 by the template 'total and deterministic' (their statements: YtpphdaphbkepfaaTotals.lean).
  GIVEN WITH THE SEED: the statements are not yours to turn. If you find one false, say at which input.
  Laid BY PROGRAM, IN A SANDBOX (cutbox-rows.mjs): the forced cells as the released guide's own fill.sh prints them over the translation 0da4a70c0f522cf6… (all of the seat's roots in one cut). By AI agents, Wed Nov 11 2026. No macro, syntax, notation, axiom, sorry.
-/
import Derived.Test.YtpphdaphbkepfaaChecked
import GoSem.Claim
import GoSem.ClaimJoined
import GoSem.ClaimMapViews
import Derived.JoinedTies
import Derived.KernelRfl
namespace Go.Proofs.Ytpphdaphbkepfaa
/- THE CELL 'sum', in the pinned program and in every row, IS THE sha256 OF THE DUMP (.gsa) THAT YtpphdaphbkepfaaProg.lean LOADS. Nothing in Lean hashes anything: it is a label: what it is worth is what the hold of that sum in a sandbox is worth. -/
noncomputable def Try.pinned : Pinned := { name := "ytpphdaphbkepfaa", sum := "0da4a70c0f522cf61efb102366c2fd85cd49f1268e865838f10e4568fec5b973", checked := Try.checked }
namespace Rows
def none {H : Type} : Left H := { results := [], args := [] }

/-- 'tammylaw02.HashPuts': WHATEVER THE INPUT: true; the input reads as it did. -/
def hashPutsSpec : ChangeSpec := { name := "hashPuts", fn := fun _ => fun
  | [d1, d2] => { results := [.lit (.bool true)], args := [d1, d2] }
  | _ => none }
def hashPutsRow : OpenClaim := { program := "ytpphdaphbkepfaa", sum := "0da4a70c0f522cf61efb102366c2fd85cd49f1268e865838f10e4568fec5b973", func := "tammy/tammylaw02.HashPuts", spec := "hashPuts", unfollowed := true, recurses := true, apart := false }
def HashPutsSaid : Prop := hashPutsRow.holds Try.pinned (OpenSpec.ofChange hashPutsSpec)

/-- ITS FALSE NEIGHBOUR: 'it returns false'. Refute it at one input. -/
def hashPutsWrong : ChangeSpec := { name := "hashPuts", fn := fun _ => fun
  | [d1, d2] => { results := [.lit (.bool false)], args := [d1, d2] }
  | _ => none }
def HashPutsWrongFalsely : Prop := hashPutsRow.holds Try.pinned (OpenSpec.ofChange hashPutsWrong)

/-- 'tammylaw02.HashKeeps': WHATEVER THE INPUT: true; the input reads as it did. -/
def hashKeepsSpec : ChangeSpec := { name := "hashKeeps", fn := fun _ => fun
  | [d1, d2] => { results := [.lit (.bool true)], args := [d1, d2] }
  | _ => none }
def hashKeepsRow : OpenClaim := { program := "ytpphdaphbkepfaa", sum := "0da4a70c0f522cf61efb102366c2fd85cd49f1268e865838f10e4568fec5b973", func := "tammy/tammylaw02.HashKeeps", spec := "hashKeeps", unfollowed := true, recurses := true, apart := false }
def HashKeepsSaid : Prop := hashKeepsRow.holds Try.pinned (OpenSpec.ofChange hashKeepsSpec)

/-- ITS FALSE NEIGHBOUR: 'it returns false'. Refute it at one input. -/
def hashKeepsWrong : ChangeSpec := { name := "hashKeeps", fn := fun _ => fun
  | [d1, d2] => { results := [.lit (.bool false)], args := [d1, d2] }
  | _ => none }
def HashKeepsWrongFalsely : Prop := hashKeepsRow.holds Try.pinned (OpenSpec.ofChange hashKeepsWrong)

/-- 'tammylaw02.HashMany': WHATEVER THE INPUT: true; the input reads as it did. -/
def hashManySpec : ChangeSpec := { name := "hashMany", fn := fun _ => fun
  | [d1, d2] => { results := [.lit (.bool true)], args := [d1, d2] }
  | _ => none }
def hashManyRow : OpenClaim := { program := "ytpphdaphbkepfaa", sum := "0da4a70c0f522cf61efb102366c2fd85cd49f1268e865838f10e4568fec5b973", func := "tammy/tammylaw02.HashMany", spec := "hashMany", unfollowed := true, recurses := true, apart := false }
def HashManySaid : Prop := hashManyRow.holds Try.pinned (OpenSpec.ofChange hashManySpec)

/-- ITS FALSE NEIGHBOUR: 'it returns false'. Refute it at one input. -/
def hashManyWrong : ChangeSpec := { name := "hashMany", fn := fun _ => fun
  | [d1, d2] => { results := [.lit (.bool false)], args := [d1, d2] }
  | _ => none }
def HashManyWrongFalsely : Prop := hashManyRow.holds Try.pinned (OpenSpec.ofChange hashManyWrong)

/-- 'tammylaw02.HashSizes': WHATEVER THE INPUT: true; the input reads as it did. -/
def hashSizesSpec : ChangeSpec := { name := "hashSizes", fn := fun _ => fun
  | [d1, d2] => { results := [.lit (.bool true)], args := [d1, d2] }
  | _ => none }
def hashSizesRow : OpenClaim := { program := "ytpphdaphbkepfaa", sum := "0da4a70c0f522cf61efb102366c2fd85cd49f1268e865838f10e4568fec5b973", func := "tammy/tammylaw02.HashSizes", spec := "hashSizes", unfollowed := true, recurses := true, apart := false }
def HashSizesSaid : Prop := hashSizesRow.holds Try.pinned (OpenSpec.ofChange hashSizesSpec)

/-- ITS FALSE NEIGHBOUR: 'it returns false'. Refute it at one input. -/
def hashSizesWrong : ChangeSpec := { name := "hashSizes", fn := fun _ => fun
  | [d1, d2] => { results := [.lit (.bool false)], args := [d1, d2] }
  | _ => none }
def HashSizesWrongFalsely : Prop := hashSizesRow.holds Try.pinned (OpenSpec.ofChange hashSizesWrong)

/-- 'tammylaw02.HashLays': WHATEVER THE INPUT: true; the input reads as it did. -/
def hashLaysSpec : ChangeSpec := { name := "hashLays", fn := fun _ => fun
  | [d] => { results := [.lit (.bool true)], args := [d] }
  | _ => none }
def hashLaysRow : OpenClaim := { program := "ytpphdaphbkepfaa", sum := "0da4a70c0f522cf61efb102366c2fd85cd49f1268e865838f10e4568fec5b973", func := "tammy/tammylaw02.HashLays", spec := "hashLays", unfollowed := true, recurses := true, apart := false }
def HashLaysSaid : Prop := hashLaysRow.holds Try.pinned (OpenSpec.ofChange hashLaysSpec)

/-- ITS FALSE NEIGHBOUR: 'it returns false'. Refute it at one input. -/
def hashLaysWrong : ChangeSpec := { name := "hashLays", fn := fun _ => fun
  | [d] => { results := [.lit (.bool false)], args := [d] }
  | _ => none }
def HashLaysWrongFalsely : Prop := hashLaysRow.holds Try.pinned (OpenSpec.ofChange hashLaysWrong)

/-- 'tammylaw03.TermPuts': WHATEVER THE INPUT: true; the input reads as it did. -/
def termPutsSpec : ChangeSpec := { name := "termPuts", fn := fun _ => fun
  | [d] => { results := [.lit (.bool true)], args := [d] }
  | _ => none }
def termPutsRow : OpenClaim := { program := "ytpphdaphbkepfaa", sum := "0da4a70c0f522cf61efb102366c2fd85cd49f1268e865838f10e4568fec5b973", func := "tammy/tammylaw03.TermPuts", spec := "termPuts", unfollowed := true, recurses := true, apart := false }
def TermPutsSaid : Prop := termPutsRow.holds Try.pinned (OpenSpec.ofChange termPutsSpec)

/-- ITS FALSE NEIGHBOUR: 'it returns false'. Refute it at one input. -/
def termPutsWrong : ChangeSpec := { name := "termPuts", fn := fun _ => fun
  | [d] => { results := [.lit (.bool false)], args := [d] }
  | _ => none }
def TermPutsWrongFalsely : Prop := termPutsRow.holds Try.pinned (OpenSpec.ofChange termPutsWrong)

/-- 'tammylaw03.TermStays': WHATEVER THE INPUT: true; the input reads as it did. -/
def termStaysSpec : ChangeSpec := { name := "termStays", fn := fun _ => fun
  | [d1, d2, d3] => { results := [.lit (.bool true)], args := [d1, d2, d3] }
  | _ => none }
def termStaysRow : OpenClaim := { program := "ytpphdaphbkepfaa", sum := "0da4a70c0f522cf61efb102366c2fd85cd49f1268e865838f10e4568fec5b973", func := "tammy/tammylaw03.TermStays", spec := "termStays", unfollowed := true, recurses := true, apart := false }
def TermStaysSaid : Prop := termStaysRow.holds Try.pinned (OpenSpec.ofChange termStaysSpec)

/-- ITS FALSE NEIGHBOUR: 'it returns false'. Refute it at one input. -/
def termStaysWrong : ChangeSpec := { name := "termStays", fn := fun _ => fun
  | [d1, d2, d3] => { results := [.lit (.bool false)], args := [d1, d2, d3] }
  | _ => none }
def TermStaysWrongFalsely : Prop := termStaysRow.holds Try.pinned (OpenSpec.ofChange termStaysWrong)

/-- 'tammylaw03.TermBelow': WHATEVER THE INPUT: true; the input reads as it did. -/
def termBelowSpec : ChangeSpec := { name := "termBelow", fn := fun _ => fun
  | [d1, d2, d3] => { results := [.lit (.bool true)], args := [d1, d2, d3] }
  | _ => none }
def termBelowRow : OpenClaim := { program := "ytpphdaphbkepfaa", sum := "0da4a70c0f522cf61efb102366c2fd85cd49f1268e865838f10e4568fec5b973", func := "tammy/tammylaw03.TermBelow", spec := "termBelow", unfollowed := true, recurses := true, apart := false }
def TermBelowSaid : Prop := termBelowRow.holds Try.pinned (OpenSpec.ofChange termBelowSpec)

/-- ITS FALSE NEIGHBOUR: 'it returns false'. Refute it at one input. -/
def termBelowWrong : ChangeSpec := { name := "termBelow", fn := fun _ => fun
  | [d1, d2, d3] => { results := [.lit (.bool false)], args := [d1, d2, d3] }
  | _ => none }
def TermBelowWrongFalsely : Prop := termBelowRow.holds Try.pinned (OpenSpec.ofChange termBelowWrong)

/-- 'tammylaw03.TermFull': WHATEVER THE INPUT: true; the input reads as it did. -/
def termFullSpec : ChangeSpec := { name := "termFull", fn := fun _ => fun
  | [d1, d2, d3] => { results := [.lit (.bool true)], args := [d1, d2, d3] }
  | _ => none }
def termFullRow : OpenClaim := { program := "ytpphdaphbkepfaa", sum := "0da4a70c0f522cf61efb102366c2fd85cd49f1268e865838f10e4568fec5b973", func := "tammy/tammylaw03.TermFull", spec := "termFull", unfollowed := true, recurses := true, apart := false }
def TermFullSaid : Prop := termFullRow.holds Try.pinned (OpenSpec.ofChange termFullSpec)

/-- ITS FALSE NEIGHBOUR: 'it returns false'. Refute it at one input. -/
def termFullWrong : ChangeSpec := { name := "termFull", fn := fun _ => fun
  | [d1, d2, d3] => { results := [.lit (.bool false)], args := [d1, d2, d3] }
  | _ => none }
def TermFullWrongFalsely : Prop := termFullRow.holds Try.pinned (OpenSpec.ofChange termFullWrong)

/-- 'tammylaw03.TermAll': WHATEVER THE INPUT: true; the input reads as it did. -/
def termAllSpec : ChangeSpec := { name := "termAll", fn := fun _ => fun
  | [d1, d2, d3] => { results := [.lit (.bool true)], args := [d1, d2, d3] }
  | _ => none }
def termAllRow : OpenClaim := { program := "ytpphdaphbkepfaa", sum := "0da4a70c0f522cf61efb102366c2fd85cd49f1268e865838f10e4568fec5b973", func := "tammy/tammylaw03.TermAll", spec := "termAll", unfollowed := true, recurses := true, apart := false }
def TermAllSaid : Prop := termAllRow.holds Try.pinned (OpenSpec.ofChange termAllSpec)

/-- ITS FALSE NEIGHBOUR: 'it returns false'. Refute it at one input. -/
def termAllWrong : ChangeSpec := { name := "termAll", fn := fun _ => fun
  | [d1, d2, d3] => { results := [.lit (.bool false)], args := [d1, d2, d3] }
  | _ => none }
def TermAllWrongFalsely : Prop := termAllRow.holds Try.pinned (OpenSpec.ofChange termAllWrong)

/-- 'tammylaw03.TermKeys': WHATEVER THE INPUT: true; the input reads as it did. -/
def termKeysSpec : ChangeSpec := { name := "termKeys", fn := fun _ => fun
  | [d1, d2] => { results := [.lit (.bool true)], args := [d1, d2] }
  | _ => none }
def termKeysRow : OpenClaim := { program := "ytpphdaphbkepfaa", sum := "0da4a70c0f522cf61efb102366c2fd85cd49f1268e865838f10e4568fec5b973", func := "tammy/tammylaw03.TermKeys", spec := "termKeys", unfollowed := true, recurses := true, apart := false }
def TermKeysSaid : Prop := termKeysRow.holds Try.pinned (OpenSpec.ofChange termKeysSpec)

/-- ITS FALSE NEIGHBOUR: 'it returns false'. Refute it at one input. -/
def termKeysWrong : ChangeSpec := { name := "termKeys", fn := fun _ => fun
  | [d1, d2] => { results := [.lit (.bool false)], args := [d1, d2] }
  | _ => none }
def TermKeysWrongFalsely : Prop := termKeysRow.holds Try.pinned (OpenSpec.ofChange termKeysWrong)

/- THE SECOND FORM. 'bulk': how many values and letters a reading holds, each counted each time it is reached (what is shared counts as often as it is met; a slice's spare places count too). A statement '..UptoSaid' is the law's where the arguments, and the package variables that the reading takes, are together of bulk at most 1048576: NARROWER than '..Said'. Prove '..Said' where nothing that the law and all that it calls make is longer than what came in: it says more and counts as full. Else prove '..UptoSaid'. A law counts once. -/
mutual
def uptoBulk {H : Type} : DataW H → Nat
  | .lit (.string bytes) => bytes.length + 1
  | .lit _ => 1
  | .nil => 1
  | .ptr d => uptoBulk d + 1
  | .slice elems spare => uptoBulkAll elems + uptoBulkAll spare + 1
  | .agg parts => uptoBulkAll parts + 1
  | .iface _ d => uptoBulk d + 1
  | .map entries => uptoBulkEntries entries + 1
  | .held _ => 1
def uptoBulkAll {H : Type} : List (DataW H) → Nat
  | [] => 0
  | d :: r => uptoBulk d + uptoBulkAll r
def uptoBulkEntries {H : Type} : List (Lit × DataW H) → Nat
  | [] => 0
  | x :: r => uptoBulkEntry x + uptoBulkEntries r
def uptoBulkEntry {H : Type} : Lit × DataW H → Nat
  | (.string bytes, d) => bytes.length + uptoBulk d + 1
  | (_, d) => uptoBulk d + 1
 end
def uptoSmall : (H : Type) → List (DataW H) → Bool := fun _ ds => decide (uptoBulkAll ds ≤ 1048576)
def OpenSpec.upto (s : _root_.Go.ChangeSpec) : _root_.Go.OpenSpec := { _root_.Go.OpenSpec.ofChange s with cond := some uptoSmall }

/-- 'tammylaw02.HashPuts', WHERE WHAT IT READS IS OF BULK AT MOST 1048576: true; the input reads as it did. -/
def hashPutsUptoRow : OpenClaim := { program := "ytpphdaphbkepfaa", sum := "0da4a70c0f522cf61efb102366c2fd85cd49f1268e865838f10e4568fec5b973", func := "tammy/tammylaw02.HashPuts", spec := "hashPuts", unfollowed := true, recurses := true, apart := false, narrowed := true }
def HashPutsUptoSaid : Prop := hashPutsUptoRow.holds Try.pinned (OpenSpec.upto hashPutsSpec)

/-- 'tammylaw02.HashKeeps', WHERE WHAT IT READS IS OF BULK AT MOST 1048576: true; the input reads as it did. -/
def hashKeepsUptoRow : OpenClaim := { program := "ytpphdaphbkepfaa", sum := "0da4a70c0f522cf61efb102366c2fd85cd49f1268e865838f10e4568fec5b973", func := "tammy/tammylaw02.HashKeeps", spec := "hashKeeps", unfollowed := true, recurses := true, apart := false, narrowed := true }
def HashKeepsUptoSaid : Prop := hashKeepsUptoRow.holds Try.pinned (OpenSpec.upto hashKeepsSpec)

/-- 'tammylaw02.HashMany', WHERE WHAT IT READS IS OF BULK AT MOST 1048576: true; the input reads as it did. -/
def hashManyUptoRow : OpenClaim := { program := "ytpphdaphbkepfaa", sum := "0da4a70c0f522cf61efb102366c2fd85cd49f1268e865838f10e4568fec5b973", func := "tammy/tammylaw02.HashMany", spec := "hashMany", unfollowed := true, recurses := true, apart := false, narrowed := true }
def HashManyUptoSaid : Prop := hashManyUptoRow.holds Try.pinned (OpenSpec.upto hashManySpec)

/-- 'tammylaw02.HashSizes', WHERE WHAT IT READS IS OF BULK AT MOST 1048576: true; the input reads as it did. -/
def hashSizesUptoRow : OpenClaim := { program := "ytpphdaphbkepfaa", sum := "0da4a70c0f522cf61efb102366c2fd85cd49f1268e865838f10e4568fec5b973", func := "tammy/tammylaw02.HashSizes", spec := "hashSizes", unfollowed := true, recurses := true, apart := false, narrowed := true }
def HashSizesUptoSaid : Prop := hashSizesUptoRow.holds Try.pinned (OpenSpec.upto hashSizesSpec)

/-- 'tammylaw02.HashLays', WHERE WHAT IT READS IS OF BULK AT MOST 1048576: true; the input reads as it did. -/
def hashLaysUptoRow : OpenClaim := { program := "ytpphdaphbkepfaa", sum := "0da4a70c0f522cf61efb102366c2fd85cd49f1268e865838f10e4568fec5b973", func := "tammy/tammylaw02.HashLays", spec := "hashLays", unfollowed := true, recurses := true, apart := false, narrowed := true }
def HashLaysUptoSaid : Prop := hashLaysUptoRow.holds Try.pinned (OpenSpec.upto hashLaysSpec)

/-- 'tammylaw03.TermPuts', WHERE WHAT IT READS IS OF BULK AT MOST 1048576: true; the input reads as it did. -/
def termPutsUptoRow : OpenClaim := { program := "ytpphdaphbkepfaa", sum := "0da4a70c0f522cf61efb102366c2fd85cd49f1268e865838f10e4568fec5b973", func := "tammy/tammylaw03.TermPuts", spec := "termPuts", unfollowed := true, recurses := true, apart := false, narrowed := true }
def TermPutsUptoSaid : Prop := termPutsUptoRow.holds Try.pinned (OpenSpec.upto termPutsSpec)

/-- 'tammylaw03.TermStays', WHERE WHAT IT READS IS OF BULK AT MOST 1048576: true; the input reads as it did. -/
def termStaysUptoRow : OpenClaim := { program := "ytpphdaphbkepfaa", sum := "0da4a70c0f522cf61efb102366c2fd85cd49f1268e865838f10e4568fec5b973", func := "tammy/tammylaw03.TermStays", spec := "termStays", unfollowed := true, recurses := true, apart := false, narrowed := true }
def TermStaysUptoSaid : Prop := termStaysUptoRow.holds Try.pinned (OpenSpec.upto termStaysSpec)

/-- 'tammylaw03.TermBelow', WHERE WHAT IT READS IS OF BULK AT MOST 1048576: true; the input reads as it did. -/
def termBelowUptoRow : OpenClaim := { program := "ytpphdaphbkepfaa", sum := "0da4a70c0f522cf61efb102366c2fd85cd49f1268e865838f10e4568fec5b973", func := "tammy/tammylaw03.TermBelow", spec := "termBelow", unfollowed := true, recurses := true, apart := false, narrowed := true }
def TermBelowUptoSaid : Prop := termBelowUptoRow.holds Try.pinned (OpenSpec.upto termBelowSpec)

/-- 'tammylaw03.TermFull', WHERE WHAT IT READS IS OF BULK AT MOST 1048576: true; the input reads as it did. -/
def termFullUptoRow : OpenClaim := { program := "ytpphdaphbkepfaa", sum := "0da4a70c0f522cf61efb102366c2fd85cd49f1268e865838f10e4568fec5b973", func := "tammy/tammylaw03.TermFull", spec := "termFull", unfollowed := true, recurses := true, apart := false, narrowed := true }
def TermFullUptoSaid : Prop := termFullUptoRow.holds Try.pinned (OpenSpec.upto termFullSpec)

/-- 'tammylaw03.TermAll', WHERE WHAT IT READS IS OF BULK AT MOST 1048576: true; the input reads as it did. -/
def termAllUptoRow : OpenClaim := { program := "ytpphdaphbkepfaa", sum := "0da4a70c0f522cf61efb102366c2fd85cd49f1268e865838f10e4568fec5b973", func := "tammy/tammylaw03.TermAll", spec := "termAll", unfollowed := true, recurses := true, apart := false, narrowed := true }
def TermAllUptoSaid : Prop := termAllUptoRow.holds Try.pinned (OpenSpec.upto termAllSpec)

/-- 'tammylaw03.TermKeys', WHERE WHAT IT READS IS OF BULK AT MOST 1048576: true; the input reads as it did. -/
def termKeysUptoRow : OpenClaim := { program := "ytpphdaphbkepfaa", sum := "0da4a70c0f522cf61efb102366c2fd85cd49f1268e865838f10e4568fec5b973", func := "tammy/tammylaw03.TermKeys", spec := "termKeys", unfollowed := true, recurses := true, apart := false, narrowed := true }
def TermKeysUptoSaid : Prop := termKeysUptoRow.holds Try.pinned (OpenSpec.upto termKeysSpec)

end Rows
end Go.Proofs.Ytpphdaphbkepfaa
