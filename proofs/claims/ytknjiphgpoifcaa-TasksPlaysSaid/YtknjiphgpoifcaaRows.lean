/-
  No cell of these rows narrows 'for every input' (looked for: loops, veiled, ifaces, maps, wideKeys, modest, calm, conditions, laid).
  DERIVED. THE GIVEN ROWS OF THIS SEAT. 3 by the template 'for every input the law returns true; each argument reads behind the call as it read before'; 0 by the template 'total and deterministic' (their statements: YtknjiphgpoifcaaTotals.lean).
  GIVEN WITH THE SEED: the statements are not yours to turn. If you find one false, say at which input.
  Laid BY PROGRAM, IN A SANDBOX (cutbox-rows.mjs): the forced cells as the released guide's own fill.sh prints them over the translation dbfcc4a878757986… (all of the seat's roots in one cut). By AI agents, Wed Nov 11 2026. No macro, syntax, notation, axiom, sorry.
-/
import Derived.Test.YtknjiphgpoifcaaChecked
import GoSem.Claim
import GoSem.ClaimJoined
import GoSem.ClaimMapViews
import Derived.JoinedTies
import Derived.KernelRfl
namespace Go.Proofs.Ytknjiphgpoifcaa
/- THE CELL 'sum', in the pinned program and in every row, IS THE sha256 OF THE DUMP (.gsa) THAT YtknjiphgpoifcaaProg.lean LOADS. Nothing in Lean hashes anything: it is a label: what it is worth is what the hold of that sum in a sandbox is worth. -/
noncomputable def Try.pinned : Pinned := { name := "ytknjiphgpoifcaa", sum := "dbfcc4a878757986f605ddb374f9352fbbfbce9a6945f87081e51536290e45a7", checked := Try.checked }
namespace Rows
def none {H : Type} : Left H := { results := [], args := [] }

/-- 'polderlaw21.TasksOrder': WHATEVER THE INPUT: true; the input reads as it did. -/
def tasksOrderSpec : ChangeSpec := { name := "tasksOrder", fn := fun _ => fun
  | [d1, d2] => { results := [.lit (.bool true)], args := [d1, d2] }
  | _ => none }
def tasksOrderRow : OpenClaim := { program := "ytknjiphgpoifcaa", sum := "dbfcc4a878757986f605ddb374f9352fbbfbce9a6945f87081e51536290e45a7", func := "polder/polderlaw21.TasksOrder", spec := "tasksOrder", unfollowed := true, recurses := true, apart := false }
def TasksOrderSaid : Prop := tasksOrderRow.holds Try.pinned (OpenSpec.ofChange tasksOrderSpec)

/-- ITS FALSE NEIGHBOUR: 'it returns false'. Refute it at one input. -/
def tasksOrderWrong : ChangeSpec := { name := "tasksOrder", fn := fun _ => fun
  | [d1, d2] => { results := [.lit (.bool false)], args := [d1, d2] }
  | _ => none }
def TasksOrderWrongFalsely : Prop := tasksOrderRow.holds Try.pinned (OpenSpec.ofChange tasksOrderWrong)

/-- 'polderlaw21.TasksPlays': WHATEVER THE INPUT: true; the input reads as it did. -/
def tasksPlaysSpec : ChangeSpec := { name := "tasksPlays", fn := fun _ => fun
  | [d1, d2] => { results := [.lit (.bool true)], args := [d1, d2] }
  | _ => none }
def tasksPlaysRow : OpenClaim := { program := "ytknjiphgpoifcaa", sum := "dbfcc4a878757986f605ddb374f9352fbbfbce9a6945f87081e51536290e45a7", func := "polder/polderlaw21.TasksPlays", spec := "tasksPlays", unfollowed := true, recurses := true, apart := false }
def TasksPlaysSaid : Prop := tasksPlaysRow.holds Try.pinned (OpenSpec.ofChange tasksPlaysSpec)

/-- ITS FALSE NEIGHBOUR: 'it returns false'. Refute it at one input. -/
def tasksPlaysWrong : ChangeSpec := { name := "tasksPlays", fn := fun _ => fun
  | [d1, d2] => { results := [.lit (.bool false)], args := [d1, d2] }
  | _ => none }
def TasksPlaysWrongFalsely : Prop := tasksPlaysRow.holds Try.pinned (OpenSpec.ofChange tasksPlaysWrong)

/-- 'polderlaw21.TasksAborted': WHATEVER THE INPUT: true; the input reads as it did. -/
def tasksAbortedSpec : ChangeSpec := { name := "tasksAborted", fn := fun _ => fun
  | [d1, d2, d3] => { results := [.lit (.bool true)], args := [d1, d2, d3] }
  | _ => none }
def tasksAbortedRow : OpenClaim := { program := "ytknjiphgpoifcaa", sum := "dbfcc4a878757986f605ddb374f9352fbbfbce9a6945f87081e51536290e45a7", func := "polder/polderlaw21.TasksAborted", spec := "tasksAborted", unfollowed := true, recurses := true, apart := false }
def TasksAbortedSaid : Prop := tasksAbortedRow.holds Try.pinned (OpenSpec.ofChange tasksAbortedSpec)

/-- ITS FALSE NEIGHBOUR: 'it returns false'. Refute it at one input. -/
def tasksAbortedWrong : ChangeSpec := { name := "tasksAborted", fn := fun _ => fun
  | [d1, d2, d3] => { results := [.lit (.bool false)], args := [d1, d2, d3] }
  | _ => none }
def TasksAbortedWrongFalsely : Prop := tasksAbortedRow.holds Try.pinned (OpenSpec.ofChange tasksAbortedWrong)

/- THE SECOND FORM. 'bulk': how many values and letters a reading holds, each counted each time it is reached (what is shared counts as often as it is met; a slice's spare places count too). A statement '..UptoSaid' is the law's where the arguments, and the package variables that the reading takes, are together of bulk at most 1048576: NARROWER than '..Said'. Prove '..Said' where nothing that the law and all that it calls make is longer than what came in: it says more and counts as full. Else prove '..UptoSaid'. A law counts once. -/
mutual
def uptoBulk {H : Type} : DataW H → Nat
  | .lit (.string bytes) => bytes.length + 1
  | .lit _ => 1
  | .nil => 1
  | .ptr d => uptoBulk d + 1
  | .slice elems spare => uptoBulkAll elems + uptoBulkAll spare + 1
  | .agg parts => uptoBulkAll parts + 1
  | .iface _ d => uptoBulk d + 1
  | .map entries => uptoBulkEntries entries + 1
  | .held _ => 1
def uptoBulkAll {H : Type} : List (DataW H) → Nat
  | [] => 0
  | d :: r => uptoBulk d + uptoBulkAll r
def uptoBulkEntries {H : Type} : List (Lit × DataW H) → Nat
  | [] => 0
  | x :: r => uptoBulkEntry x + uptoBulkEntries r
def uptoBulkEntry {H : Type} : Lit × DataW H → Nat
  | (.string bytes, d) => bytes.length + uptoBulk d + 1
  | (_, d) => uptoBulk d + 1
 end
def uptoSmall : (H : Type) → List (DataW H) → Bool := fun _ ds => decide (uptoBulkAll ds ≤ 1048576)
def OpenSpec.upto (s : _root_.Go.ChangeSpec) : _root_.Go.OpenSpec := { _root_.Go.OpenSpec.ofChange s with cond := some uptoSmall }

/-- 'polderlaw21.TasksOrder', WHERE WHAT IT READS IS OF BULK AT MOST 1048576: true; the input reads as it did. -/
def tasksOrderUptoRow : OpenClaim := { program := "ytknjiphgpoifcaa", sum := "dbfcc4a878757986f605ddb374f9352fbbfbce9a6945f87081e51536290e45a7", func := "polder/polderlaw21.TasksOrder", spec := "tasksOrder", unfollowed := true, recurses := true, apart := false, narrowed := true }
def TasksOrderUptoSaid : Prop := tasksOrderUptoRow.holds Try.pinned (OpenSpec.upto tasksOrderSpec)

/-- 'polderlaw21.TasksPlays', WHERE WHAT IT READS IS OF BULK AT MOST 1048576: true; the input reads as it did. -/
def tasksPlaysUptoRow : OpenClaim := { program := "ytknjiphgpoifcaa", sum := "dbfcc4a878757986f605ddb374f9352fbbfbce9a6945f87081e51536290e45a7", func := "polder/polderlaw21.TasksPlays", spec := "tasksPlays", unfollowed := true, recurses := true, apart := false, narrowed := true }
def TasksPlaysUptoSaid : Prop := tasksPlaysUptoRow.holds Try.pinned (OpenSpec.upto tasksPlaysSpec)

/-- 'polderlaw21.TasksAborted', WHERE WHAT IT READS IS OF BULK AT MOST 1048576: true; the input reads as it did. -/
def tasksAbortedUptoRow : OpenClaim := { program := "ytknjiphgpoifcaa", sum := "dbfcc4a878757986f605ddb374f9352fbbfbce9a6945f87081e51536290e45a7", func := "polder/polderlaw21.TasksAborted", spec := "tasksAborted", unfollowed := true, recurses := true, apart := false, narrowed := true }
def TasksAbortedUptoSaid : Prop := tasksAbortedUptoRow.holds Try.pinned (OpenSpec.upto tasksAbortedSpec)

end Rows
end Go.Proofs.Ytknjiphgpoifcaa
