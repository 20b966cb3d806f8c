/-
  No cell of these rows narrows 'for every input' (looked for: loops, veiled, ifaces, maps, wideKeys, modest, calm, conditions, laid).
  DERIVED. THE GIVEN ROWS OF THIS SEAT. 7 by the template 'for every input the law returns true; each argument reads behind the call as it read before'; 0 by the template 'total and deterministic' (their statements: YtmanldcohbegkaaTotals.lean).
  GIVEN WITH THE SEED: the statements are not yours to turn. If you find one false, say at which input.
  Laid BY PROGRAM, IN A SANDBOX (cutbox-rows.mjs): the forced cells as the released guide's own fill.sh prints them over the translation b99c3451f17a9af5… (all of the seat's roots in one cut). By AI agents, Wed Nov 11 2026. No macro, syntax, notation, axiom, sorry.
-/
import Derived.Test.YtmanldcohbegkaaChecked
import GoSem.Claim
import GoSem.ClaimJoined
import GoSem.ClaimMapViews
import Derived.JoinedTies
import Derived.KernelRfl
namespace Go.Proofs.Ytmanldcohbegkaa
/- THE CELL 'sum', in the pinned program and in every row, IS THE sha256 OF THE DUMP (.gsa) THAT YtmanldcohbegkaaProg.lean LOADS. Nothing in Lean hashes anything: it is a label: what it is worth is what the hold of that sum in a sandbox is worth. -/
noncomputable def Try.pinned : Pinned := { name := "ytmanldcohbegkaa", sum := "b99c3451f17a9af58f538ff8875ff61a7c2276ad8b3026c6abda957e68bdeba1", checked := Try.checked }
namespace Rows
def none {H : Type} : Left H := { results := [], args := [] }

/-- 'polderlaw23.ModelPlays': WHATEVER THE INPUT: true; the input reads as it did. -/
def modelPlaysSpec : ChangeSpec := { name := "modelPlays", fn := fun _ => fun
  | [d] => { results := [.lit (.bool true)], args := [d] }
  | _ => none }
def modelPlaysRow : OpenClaim := { program := "ytmanldcohbegkaa", sum := "b99c3451f17a9af58f538ff8875ff61a7c2276ad8b3026c6abda957e68bdeba1", func := "polder/polderlaw23.ModelPlays", spec := "modelPlays", inPlace := ["maps.clone"], unfollowed := true, recurses := true, apart := false }
def ModelPlaysSaid : Prop := modelPlaysRow.holds Try.pinned (OpenSpec.ofChange modelPlaysSpec)

/-- ITS FALSE NEIGHBOUR: 'it returns false'. Refute it at one input. -/
def modelPlaysWrong : ChangeSpec := { name := "modelPlays", fn := fun _ => fun
  | [d] => { results := [.lit (.bool false)], args := [d] }
  | _ => none }
def ModelPlaysWrongFalsely : Prop := modelPlaysRow.holds Try.pinned (OpenSpec.ofChange modelPlaysWrong)

/-- 'polderlaw23.ModelBlocks': WHATEVER THE INPUT: true; the input reads as it did. -/
def modelBlocksSpec : ChangeSpec := { name := "modelBlocks", fn := fun _ => fun
  | [d] => { results := [.lit (.bool true)], args := [d] }
  | _ => none }
def modelBlocksRow : OpenClaim := { program := "ytmanldcohbegkaa", sum := "b99c3451f17a9af58f538ff8875ff61a7c2276ad8b3026c6abda957e68bdeba1", func := "polder/polderlaw23.ModelBlocks", spec := "modelBlocks", inPlace := ["maps.clone"], unfollowed := true, recurses := true, apart := false }
def ModelBlocksSaid : Prop := modelBlocksRow.holds Try.pinned (OpenSpec.ofChange modelBlocksSpec)

/-- ITS FALSE NEIGHBOUR: 'it returns false'. Refute it at one input. -/
def modelBlocksWrong : ChangeSpec := { name := "modelBlocks", fn := fun _ => fun
  | [d] => { results := [.lit (.bool false)], args := [d] }
  | _ => none }
def ModelBlocksWrongFalsely : Prop := modelBlocksRow.holds Try.pinned (OpenSpec.ofChange modelBlocksWrong)

/-- 'polderlaw23.ModelApart': WHATEVER THE INPUT: true; the input reads as it did. -/
def modelApartSpec : ChangeSpec := { name := "modelApart", fn := fun _ => fun
  | [d1, d2, d3] => { results := [.lit (.bool true)], args := [d1, d2, d3] }
  | _ => none }
def modelApartRow : OpenClaim := { program := "ytmanldcohbegkaa", sum := "b99c3451f17a9af58f538ff8875ff61a7c2276ad8b3026c6abda957e68bdeba1", func := "polder/polderlaw23.ModelApart", spec := "modelApart", inPlace := ["maps.clone"], unfollowed := true, recurses := true, apart := false }
def ModelApartSaid : Prop := modelApartRow.holds Try.pinned (OpenSpec.ofChange modelApartSpec)

/-- ITS FALSE NEIGHBOUR: 'it returns false'. Refute it at one input. -/
def modelApartWrong : ChangeSpec := { name := "modelApart", fn := fun _ => fun
  | [d1, d2, d3] => { results := [.lit (.bool false)], args := [d1, d2, d3] }
  | _ => none }
def ModelApartWrongFalsely : Prop := modelApartRow.holds Try.pinned (OpenSpec.ofChange modelApartWrong)

/-- 'polderlaw23.ModelLists': WHATEVER THE INPUT: true; the input reads as it did. -/
def modelListsSpec : ChangeSpec := { name := "modelLists", fn := fun _ => fun
  | [d] => { results := [.lit (.bool true)], args := [d] }
  | _ => none }
def modelListsRow : OpenClaim := { program := "ytmanldcohbegkaa", sum := "b99c3451f17a9af58f538ff8875ff61a7c2276ad8b3026c6abda957e68bdeba1", func := "polder/polderlaw23.ModelLists", spec := "modelLists", inPlace := ["maps.clone"], unfollowed := true, recurses := true, apart := false }
def ModelListsSaid : Prop := modelListsRow.holds Try.pinned (OpenSpec.ofChange modelListsSpec)

/-- ITS FALSE NEIGHBOUR: 'it returns false'. Refute it at one input. -/
def modelListsWrong : ChangeSpec := { name := "modelLists", fn := fun _ => fun
  | [d] => { results := [.lit (.bool false)], args := [d] }
  | _ => none }
def ModelListsWrongFalsely : Prop := modelListsRow.holds Try.pinned (OpenSpec.ofChange modelListsWrong)

/-- 'polderlaw23.ModelTrouble': WHATEVER THE INPUT: true; the input reads as it did. -/
def modelTroubleSpec : ChangeSpec := { name := "modelTrouble", fn := fun _ => fun
  | [d1, d2, d3] => { results := [.lit (.bool true)], args := [d1, d2, d3] }
  | _ => none }
def modelTroubleRow : OpenClaim := { program := "ytmanldcohbegkaa", sum := "b99c3451f17a9af58f538ff8875ff61a7c2276ad8b3026c6abda957e68bdeba1", func := "polder/polderlaw23.ModelTrouble", spec := "modelTrouble", inPlace := ["maps.clone"], unfollowed := true, recurses := true, apart := false }
def ModelTroubleSaid : Prop := modelTroubleRow.holds Try.pinned (OpenSpec.ofChange modelTroubleSpec)

/-- ITS FALSE NEIGHBOUR: 'it returns false'. Refute it at one input. -/
def modelTroubleWrong : ChangeSpec := { name := "modelTrouble", fn := fun _ => fun
  | [d1, d2, d3] => { results := [.lit (.bool false)], args := [d1, d2, d3] }
  | _ => none }
def ModelTroubleWrongFalsely : Prop := modelTroubleRow.holds Try.pinned (OpenSpec.ofChange modelTroubleWrong)

/-- 'polderlaw23.ModelCopies': WHATEVER THE INPUT: true; the input reads as it did. -/
def modelCopiesSpec : ChangeSpec := { name := "modelCopies", fn := fun _ => fun
  | [d1, d2] => { results := [.lit (.bool true)], args := [d1, d2] }
  | _ => none }
def modelCopiesRow : OpenClaim := { program := "ytmanldcohbegkaa", sum := "b99c3451f17a9af58f538ff8875ff61a7c2276ad8b3026c6abda957e68bdeba1", func := "polder/polderlaw23.ModelCopies", spec := "modelCopies", inPlace := ["maps.clone"], unfollowed := true, recurses := true, apart := false }
def ModelCopiesSaid : Prop := modelCopiesRow.holds Try.pinned (OpenSpec.ofChange modelCopiesSpec)

/-- ITS FALSE NEIGHBOUR: 'it returns false'. Refute it at one input. -/
def modelCopiesWrong : ChangeSpec := { name := "modelCopies", fn := fun _ => fun
  | [d1, d2] => { results := [.lit (.bool false)], args := [d1, d2] }
  | _ => none }
def ModelCopiesWrongFalsely : Prop := modelCopiesRow.holds Try.pinned (OpenSpec.ofChange modelCopiesWrong)

/-- 'polderlaw23.ModelCommutes': WHATEVER THE INPUT: true; the input reads as it did. -/
def modelCommutesSpec : ChangeSpec := { name := "modelCommutes", fn := fun _ => fun
  | [d1, d2, d3] => { results := [.lit (.bool true)], args := [d1, d2, d3] }
  | _ => none }
def modelCommutesRow : OpenClaim := { program := "ytmanldcohbegkaa", sum := "b99c3451f17a9af58f538ff8875ff61a7c2276ad8b3026c6abda957e68bdeba1", func := "polder/polderlaw23.ModelCommutes", spec := "modelCommutes", inPlace := ["maps.clone"], unfollowed := true, recurses := true, apart := false }
def ModelCommutesSaid : Prop := modelCommutesRow.holds Try.pinned (OpenSpec.ofChange modelCommutesSpec)

/-- ITS FALSE NEIGHBOUR: 'it returns false'. Refute it at one input. -/
def modelCommutesWrong : ChangeSpec := { name := "modelCommutes", fn := fun _ => fun
  | [d1, d2, d3] => { results := [.lit (.bool false)], args := [d1, d2, d3] }
  | _ => none }
def ModelCommutesWrongFalsely : Prop := modelCommutesRow.holds Try.pinned (OpenSpec.ofChange modelCommutesWrong)

/- THE SECOND FORM. 'bulk': how many values and letters a reading holds, each counted each time it is reached (what is shared counts as often as it is met; a slice's spare places count too). A statement '..UptoSaid' is the law's where the arguments, and the package variables that the reading takes, are together of bulk at most 1048576: NARROWER than '..Said'. Prove '..Said' where nothing that the law and all that it calls make is longer than what came in: it says more and counts as full. Else prove '..UptoSaid'. A law counts once. -/
mutual
def uptoBulk {H : Type} : DataW H → Nat
  | .lit (.string bytes) => bytes.length + 1
  | .lit _ => 1
  | .nil => 1
  | .ptr d => uptoBulk d + 1
  | .slice elems spare => uptoBulkAll elems + uptoBulkAll spare + 1
  | .agg parts => uptoBulkAll parts + 1
  | .iface _ d => uptoBulk d + 1
  | .map entries => uptoBulkEntries entries + 1
  | .held _ => 1
def uptoBulkAll {H : Type} : List (DataW H) → Nat
  | [] => 0
  | d :: r => uptoBulk d + uptoBulkAll r
def uptoBulkEntries {H : Type} : List (Lit × DataW H) → Nat
  | [] => 0
  | x :: r => uptoBulkEntry x + uptoBulkEntries r
def uptoBulkEntry {H : Type} : Lit × DataW H → Nat
  | (.string bytes, d) => bytes.length + uptoBulk d + 1
  | (_, d) => uptoBulk d + 1
 end
def uptoSmall : (H : Type) → List (DataW H) → Bool := fun _ ds => decide (uptoBulkAll ds ≤ 1048576)
def OpenSpec.upto (s : _root_.Go.ChangeSpec) : _root_.Go.OpenSpec := { _root_.Go.OpenSpec.ofChange s with cond := some uptoSmall }

/-- 'polderlaw23.ModelPlays', WHERE WHAT IT READS IS OF BULK AT MOST 1048576: true; the input reads as it did. -/
def modelPlaysUptoRow : OpenClaim := { program := "ytmanldcohbegkaa", sum := "b99c3451f17a9af58f538ff8875ff61a7c2276ad8b3026c6abda957e68bdeba1", func := "polder/polderlaw23.ModelPlays", spec := "modelPlays", inPlace := ["maps.clone"], unfollowed := true, recurses := true, apart := false, narrowed := true }
def ModelPlaysUptoSaid : Prop := modelPlaysUptoRow.holds Try.pinned (OpenSpec.upto modelPlaysSpec)

/-- 'polderlaw23.ModelBlocks', WHERE WHAT IT READS IS OF BULK AT MOST 1048576: true; the input reads as it did. -/
def modelBlocksUptoRow : OpenClaim := { program := "ytmanldcohbegkaa", sum := "b99c3451f17a9af58f538ff8875ff61a7c2276ad8b3026c6abda957e68bdeba1", func := "polder/polderlaw23.ModelBlocks", spec := "modelBlocks", inPlace := ["maps.clone"], unfollowed := true, recurses := true, apart := false, narrowed := true }
def ModelBlocksUptoSaid : Prop := modelBlocksUptoRow.holds Try.pinned (OpenSpec.upto modelBlocksSpec)

/-- 'polderlaw23.ModelApart', WHERE WHAT IT READS IS OF BULK AT MOST 1048576: true; the input reads as it did. -/
def modelApartUptoRow : OpenClaim := { program := "ytmanldcohbegkaa", sum := "b99c3451f17a9af58f538ff8875ff61a7c2276ad8b3026c6abda957e68bdeba1", func := "polder/polderlaw23.ModelApart", spec := "modelApart", inPlace := ["maps.clone"], unfollowed := true, recurses := true, apart := false, narrowed := true }
def ModelApartUptoSaid : Prop := modelApartUptoRow.holds Try.pinned (OpenSpec.upto modelApartSpec)

/-- 'polderlaw23.ModelLists', WHERE WHAT IT READS IS OF BULK AT MOST 1048576: true; the input reads as it did. -/
def modelListsUptoRow : OpenClaim := { program := "ytmanldcohbegkaa", sum := "b99c3451f17a9af58f538ff8875ff61a7c2276ad8b3026c6abda957e68bdeba1", func := "polder/polderlaw23.ModelLists", spec := "modelLists", inPlace := ["maps.clone"], unfollowed := true, recurses := true, apart := false, narrowed := true }
def ModelListsUptoSaid : Prop := modelListsUptoRow.holds Try.pinned (OpenSpec.upto modelListsSpec)

/-- 'polderlaw23.ModelTrouble', WHERE WHAT IT READS IS OF BULK AT MOST 1048576: true; the input reads as it did. -/
def modelTroubleUptoRow : OpenClaim := { program := "ytmanldcohbegkaa", sum := "b99c3451f17a9af58f538ff8875ff61a7c2276ad8b3026c6abda957e68bdeba1", func := "polder/polderlaw23.ModelTrouble", spec := "modelTrouble", inPlace := ["maps.clone"], unfollowed := true, recurses := true, apart := false, narrowed := true }
def ModelTroubleUptoSaid : Prop := modelTroubleUptoRow.holds Try.pinned (OpenSpec.upto modelTroubleSpec)

/-- 'polderlaw23.ModelCopies', WHERE WHAT IT READS IS OF BULK AT MOST 1048576: true; the input reads as it did. -/
def modelCopiesUptoRow : OpenClaim := { program := "ytmanldcohbegkaa", sum := "b99c3451f17a9af58f538ff8875ff61a7c2276ad8b3026c6abda957e68bdeba1", func := "polder/polderlaw23.ModelCopies", spec := "modelCopies", inPlace := ["maps.clone"], unfollowed := true, recurses := true, apart := false, narrowed := true }
def ModelCopiesUptoSaid : Prop := modelCopiesUptoRow.holds Try.pinned (OpenSpec.upto modelCopiesSpec)

/-- 'polderlaw23.ModelCommutes', WHERE WHAT IT READS IS OF BULK AT MOST 1048576: true; the input reads as it did. -/
def modelCommutesUptoRow : OpenClaim := { program := "ytmanldcohbegkaa", sum := "b99c3451f17a9af58f538ff8875ff61a7c2276ad8b3026c6abda957e68bdeba1", func := "polder/polderlaw23.ModelCommutes", spec := "modelCommutes", inPlace := ["maps.clone"], unfollowed := true, recurses := true, apart := false, narrowed := true }
def ModelCommutesUptoSaid : Prop := modelCommutesUptoRow.holds Try.pinned (OpenSpec.upto modelCommutesSpec)

end Rows
end Go.Proofs.Ytmanldcohbegkaa
