/-
  No cell of these rows narrows 'for every input' (looked for: loops, veiled, ifaces, maps, wideKeys, modest, calm, conditions, laid).
  DERIVED. THE GIVEN ROWS OF THIS SEAT. 7 by the template 'for every input the law returns true; each argument reads behind the call as it read before'; 0 by the template 'total and deterministic' (their statements: YtoommmeapdkopaaTotals.lean).
  GIVEN WITH THE SEED: the statements are not yours to turn. If you find one false, say at which input.
  Laid BY PROGRAM, IN A SANDBOX (cutbox-rows.mjs): the forced cells as the released guide's own fill.sh prints them over the translation d5ce92247920de62… (all of the seat's roots in one cut). By AI agents, Wed Nov 11 2026. No macro, syntax, notation, axiom, sorry.
-/
import Derived.Test.YtoommmeapdkopaaChecked
import GoSem.Claim
import GoSem.ClaimJoined
import GoSem.ClaimMapViews
import Derived.JoinedTies
import Derived.KernelRfl
namespace Go.Proofs.Ytoommmeapdkopaa
/- THE CELL 'sum', in the pinned program and in every row, IS THE sha256 OF THE DUMP (.gsa) THAT YtoommmeapdkopaaProg.lean LOADS. Nothing in Lean hashes anything: it is a label: what it is worth is what the hold of that sum in a sandbox is worth. -/
noncomputable def Try.pinned : Pinned := { name := "ytoommmeapdkopaa", sum := "d5ce92247920de62921458f27951b082f3d1e50bcc4c5197bb22a9d08f8ba680", checked := Try.checked }
namespace Rows
def none {H : Type} : Left H := { results := [], args := [] }

/-- 'dowellaw49.TaskEqual': WHATEVER THE INPUT: true; the input reads as it did. -/
def taskEqualSpec : ChangeSpec := { name := "taskEqual", fn := fun _ => fun
  | [d1, d2] => { results := [.lit (.bool true)], args := [d1, d2] }
  | _ => none }
def taskEqualRow : OpenClaim := { program := "ytoommmeapdkopaa", sum := "d5ce92247920de62921458f27951b082f3d1e50bcc4c5197bb22a9d08f8ba680", func := "dowel/dowellaw49.TaskEqual", spec := "taskEqual", unfollowed := true, recurses := true, apart := false }
def TaskEqualSaid : Prop := taskEqualRow.holds Try.pinned (OpenSpec.ofChange taskEqualSpec)

/-- ITS FALSE NEIGHBOUR: 'it returns false'. Refute it at one input. -/
def taskEqualWrong : ChangeSpec := { name := "taskEqual", fn := fun _ => fun
  | [d1, d2] => { results := [.lit (.bool false)], args := [d1, d2] }
  | _ => none }
def TaskEqualWrongFalsely : Prop := taskEqualRow.holds Try.pinned (OpenSpec.ofChange taskEqualWrong)

/-- 'dowellaw49.TaskTails': WHATEVER THE INPUT: true; the input reads as it did. -/
def taskTailsSpec : ChangeSpec := { name := "taskTails", fn := fun _ => fun
  | [d] => { results := [.lit (.bool true)], args := [d] }
  | _ => none }
def taskTailsRow : OpenClaim := { program := "ytoommmeapdkopaa", sum := "d5ce92247920de62921458f27951b082f3d1e50bcc4c5197bb22a9d08f8ba680", func := "dowel/dowellaw49.TaskTails", spec := "taskTails", unfollowed := true, recurses := true, apart := false }
def TaskTailsSaid : Prop := taskTailsRow.holds Try.pinned (OpenSpec.ofChange taskTailsSpec)

/-- ITS FALSE NEIGHBOUR: 'it returns false'. Refute it at one input. -/
def taskTailsWrong : ChangeSpec := { name := "taskTails", fn := fun _ => fun
  | [d] => { results := [.lit (.bool false)], args := [d] }
  | _ => none }
def TaskTailsWrongFalsely : Prop := taskTailsRow.holds Try.pinned (OpenSpec.ofChange taskTailsWrong)

/-- 'dowellaw49.TaskChains': WHATEVER THE INPUT: true; the input reads as it did. -/
def taskChainsSpec : ChangeSpec := { name := "taskChains", fn := fun _ => fun
  | [d1, d2] => { results := [.lit (.bool true)], args := [d1, d2] }
  | _ => none }
def taskChainsRow : OpenClaim := { program := "ytoommmeapdkopaa", sum := "d5ce92247920de62921458f27951b082f3d1e50bcc4c5197bb22a9d08f8ba680", func := "dowel/dowellaw49.TaskChains", spec := "taskChains", unfollowed := true, recurses := true, apart := false }
def TaskChainsSaid : Prop := taskChainsRow.holds Try.pinned (OpenSpec.ofChange taskChainsSpec)

/-- ITS FALSE NEIGHBOUR: 'it returns false'. Refute it at one input. -/
def taskChainsWrong : ChangeSpec := { name := "taskChains", fn := fun _ => fun
  | [d1, d2] => { results := [.lit (.bool false)], args := [d1, d2] }
  | _ => none }
def TaskChainsWrongFalsely : Prop := taskChainsRow.holds Try.pinned (OpenSpec.ofChange taskChainsWrong)

/-- 'dowellaw49.TaskLoads': WHATEVER THE INPUT: true; the input reads as it did. -/
def taskLoadsSpec : ChangeSpec := { name := "taskLoads", fn := fun _ => fun
  | [d1, d2] => { results := [.lit (.bool true)], args := [d1, d2] }
  | _ => none }
def taskLoadsRow : OpenClaim := { program := "ytoommmeapdkopaa", sum := "d5ce92247920de62921458f27951b082f3d1e50bcc4c5197bb22a9d08f8ba680", func := "dowel/dowellaw49.TaskLoads", spec := "taskLoads", unfollowed := true, recurses := true, apart := false }
def TaskLoadsSaid : Prop := taskLoadsRow.holds Try.pinned (OpenSpec.ofChange taskLoadsSpec)

/-- ITS FALSE NEIGHBOUR: 'it returns false'. Refute it at one input. -/
def taskLoadsWrong : ChangeSpec := { name := "taskLoads", fn := fun _ => fun
  | [d1, d2] => { results := [.lit (.bool false)], args := [d1, d2] }
  | _ => none }
def TaskLoadsWrongFalsely : Prop := taskLoadsRow.holds Try.pinned (OpenSpec.ofChange taskLoadsWrong)

/-- 'dowellaw49.TaskOrders': WHATEVER THE INPUT: true; the input reads as it did. -/
def taskOrdersSpec : ChangeSpec := { name := "taskOrders", fn := fun _ => fun
  | [d1, d2] => { results := [.lit (.bool true)], args := [d1, d2] }
  | _ => none }
def taskOrdersRow : OpenClaim := { program := "ytoommmeapdkopaa", sum := "d5ce92247920de62921458f27951b082f3d1e50bcc4c5197bb22a9d08f8ba680", func := "dowel/dowellaw49.TaskOrders", spec := "taskOrders", unfollowed := true, recurses := true, apart := false }
def TaskOrdersSaid : Prop := taskOrdersRow.holds Try.pinned (OpenSpec.ofChange taskOrdersSpec)

/-- ITS FALSE NEIGHBOUR: 'it returns false'. Refute it at one input. -/
def taskOrdersWrong : ChangeSpec := { name := "taskOrders", fn := fun _ => fun
  | [d1, d2] => { results := [.lit (.bool false)], args := [d1, d2] }
  | _ => none }
def TaskOrdersWrongFalsely : Prop := taskOrdersRow.holds Try.pinned (OpenSpec.ofChange taskOrdersWrong)

/-- 'dowellaw49.TaskKeeps': WHATEVER THE INPUT: true; the input reads as it did. -/
def taskKeepsSpec : ChangeSpec := { name := "taskKeeps", fn := fun _ => fun
  | [d] => { results := [.lit (.bool true)], args := [d] }
  | _ => none }
def taskKeepsRow : OpenClaim := { program := "ytoommmeapdkopaa", sum := "d5ce92247920de62921458f27951b082f3d1e50bcc4c5197bb22a9d08f8ba680", func := "dowel/dowellaw49.TaskKeeps", spec := "taskKeeps", unfollowed := true, recurses := true, apart := false }
def TaskKeepsSaid : Prop := taskKeepsRow.holds Try.pinned (OpenSpec.ofChange taskKeepsSpec)

/-- ITS FALSE NEIGHBOUR: 'it returns false'. Refute it at one input. -/
def taskKeepsWrong : ChangeSpec := { name := "taskKeeps", fn := fun _ => fun
  | [d] => { results := [.lit (.bool false)], args := [d] }
  | _ => none }
def TaskKeepsWrongFalsely : Prop := taskKeepsRow.holds Try.pinned (OpenSpec.ofChange taskKeepsWrong)

/-- 'dowellaw49.TaskChecks': WHATEVER THE INPUT: true; the input reads as it did. -/
def taskChecksSpec : ChangeSpec := { name := "taskChecks", fn := fun _ => fun
  | [d1, d2] => { results := [.lit (.bool true)], args := [d1, d2] }
  | _ => none }
def taskChecksRow : OpenClaim := { program := "ytoommmeapdkopaa", sum := "d5ce92247920de62921458f27951b082f3d1e50bcc4c5197bb22a9d08f8ba680", func := "dowel/dowellaw49.TaskChecks", spec := "taskChecks", unfollowed := true, recurses := true, apart := false }
def TaskChecksSaid : Prop := taskChecksRow.holds Try.pinned (OpenSpec.ofChange taskChecksSpec)

/-- ITS FALSE NEIGHBOUR: 'it returns false'. Refute it at one input. -/
def taskChecksWrong : ChangeSpec := { name := "taskChecks", fn := fun _ => fun
  | [d1, d2] => { results := [.lit (.bool false)], args := [d1, d2] }
  | _ => none }
def TaskChecksWrongFalsely : Prop := taskChecksRow.holds Try.pinned (OpenSpec.ofChange taskChecksWrong)

/- THE SECOND FORM. 'bulk': how many values and letters a reading holds, each counted each time it is reached (what is shared counts as often as it is met; a slice's spare places count too). A statement '..UptoSaid' is the law's where the arguments, and the package variables that the reading takes, are together of bulk at most 1048576: NARROWER than '..Said'. Prove '..Said' where nothing that the law and all that it calls make is longer than what came in: it says more and counts as full. Else prove '..UptoSaid'. A law counts once. -/
mutual
def uptoBulk {H : Type} : DataW H → Nat
  | .lit (.string bytes) => bytes.length + 1
  | .lit _ => 1
  | .nil => 1
  | .ptr d => uptoBulk d + 1
  | .slice elems spare => uptoBulkAll elems + uptoBulkAll spare + 1
  | .agg parts => uptoBulkAll parts + 1
  | .iface _ d => uptoBulk d + 1
  | .map entries => uptoBulkEntries entries + 1
  | .held _ => 1
def uptoBulkAll {H : Type} : List (DataW H) → Nat
  | [] => 0
  | d :: r => uptoBulk d + uptoBulkAll r
def uptoBulkEntries {H : Type} : List (Lit × DataW H) → Nat
  | [] => 0
  | x :: r => uptoBulkEntry x + uptoBulkEntries r
def uptoBulkEntry {H : Type} : Lit × DataW H → Nat
  | (.string bytes, d) => bytes.length + uptoBulk d + 1
  | (_, d) => uptoBulk d + 1
 end
def uptoSmall : (H : Type) → List (DataW H) → Bool := fun _ ds => decide (uptoBulkAll ds ≤ 1048576)
def OpenSpec.upto (s : _root_.Go.ChangeSpec) : _root_.Go.OpenSpec := { _root_.Go.OpenSpec.ofChange s with cond := some uptoSmall }

/-- 'dowellaw49.TaskEqual', WHERE WHAT IT READS IS OF BULK AT MOST 1048576: true; the input reads as it did. -/
def taskEqualUptoRow : OpenClaim := { program := "ytoommmeapdkopaa", sum := "d5ce92247920de62921458f27951b082f3d1e50bcc4c5197bb22a9d08f8ba680", func := "dowel/dowellaw49.TaskEqual", spec := "taskEqual", unfollowed := true, recurses := true, apart := false, narrowed := true }
def TaskEqualUptoSaid : Prop := taskEqualUptoRow.holds Try.pinned (OpenSpec.upto taskEqualSpec)

/-- 'dowellaw49.TaskTails', WHERE WHAT IT READS IS OF BULK AT MOST 1048576: true; the input reads as it did. -/
def taskTailsUptoRow : OpenClaim := { program := "ytoommmeapdkopaa", sum := "d5ce92247920de62921458f27951b082f3d1e50bcc4c5197bb22a9d08f8ba680", func := "dowel/dowellaw49.TaskTails", spec := "taskTails", unfollowed := true, recurses := true, apart := false, narrowed := true }
def TaskTailsUptoSaid : Prop := taskTailsUptoRow.holds Try.pinned (OpenSpec.upto taskTailsSpec)

/-- 'dowellaw49.TaskChains', WHERE WHAT IT READS IS OF BULK AT MOST 1048576: true; the input reads as it did. -/
def taskChainsUptoRow : OpenClaim := { program := "ytoommmeapdkopaa", sum := "d5ce92247920de62921458f27951b082f3d1e50bcc4c5197bb22a9d08f8ba680", func := "dowel/dowellaw49.TaskChains", spec := "taskChains", unfollowed := true, recurses := true, apart := false, narrowed := true }
def TaskChainsUptoSaid : Prop := taskChainsUptoRow.holds Try.pinned (OpenSpec.upto taskChainsSpec)

/-- 'dowellaw49.TaskLoads', WHERE WHAT IT READS IS OF BULK AT MOST 1048576: true; the input reads as it did. -/
def taskLoadsUptoRow : OpenClaim := { program := "ytoommmeapdkopaa", sum := "d5ce92247920de62921458f27951b082f3d1e50bcc4c5197bb22a9d08f8ba680", func := "dowel/dowellaw49.TaskLoads", spec := "taskLoads", unfollowed := true, recurses := true, apart := false, narrowed := true }
def TaskLoadsUptoSaid : Prop := taskLoadsUptoRow.holds Try.pinned (OpenSpec.upto taskLoadsSpec)

/-- 'dowellaw49.TaskOrders', WHERE WHAT IT READS IS OF BULK AT MOST 1048576: true; the input reads as it did. -/
def taskOrdersUptoRow : OpenClaim := { program := "ytoommmeapdkopaa", sum := "d5ce92247920de62921458f27951b082f3d1e50bcc4c5197bb22a9d08f8ba680", func := "dowel/dowellaw49.TaskOrders", spec := "taskOrders", unfollowed := true, recurses := true, apart := false, narrowed := true }
def TaskOrdersUptoSaid : Prop := taskOrdersUptoRow.holds Try.pinned (OpenSpec.upto taskOrdersSpec)

/-- 'dowellaw49.TaskKeeps', WHERE WHAT IT READS IS OF BULK AT MOST 1048576: true; the input reads as it did. -/
def taskKeepsUptoRow : OpenClaim := { program := "ytoommmeapdkopaa", sum := "d5ce92247920de62921458f27951b082f3d1e50bcc4c5197bb22a9d08f8ba680", func := "dowel/dowellaw49.TaskKeeps", spec := "taskKeeps", unfollowed := true, recurses := true, apart := false, narrowed := true }
def TaskKeepsUptoSaid : Prop := taskKeepsUptoRow.holds Try.pinned (OpenSpec.upto taskKeepsSpec)

/-- 'dowellaw49.TaskChecks', WHERE WHAT IT READS IS OF BULK AT MOST 1048576: true; the input reads as it did. -/
def taskChecksUptoRow : OpenClaim := { program := "ytoommmeapdkopaa", sum := "d5ce92247920de62921458f27951b082f3d1e50bcc4c5197bb22a9d08f8ba680", func := "dowel/dowellaw49.TaskChecks", spec := "taskChecks", unfollowed := true, recurses := true, apart := false, narrowed := true }
def TaskChecksUptoSaid : Prop := taskChecksUptoRow.holds Try.pinned (OpenSpec.upto taskChecksSpec)

end Rows
end Go.Proofs.Ytoommmeapdkopaa
