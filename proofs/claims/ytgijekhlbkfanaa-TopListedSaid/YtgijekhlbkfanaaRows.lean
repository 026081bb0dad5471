/-
  No cell of these rows narrows 'for every input' (looked for: loops, veiled, ifaces, maps, wideKeys, modest, calm, conditions, laid).
  DERIVED. THE GIVEN ROWS OF THIS SEAT. 8 by the template 'for every input the law returns true; each argument reads behind the call as it read before'; 0 by the template 'total and deterministic' (their statements: YtgijekhlbkfanaaTotals.lean).
  GIVEN WITH THE SEED: the statements are not yours to turn. If you find one false, say at which input.
  Laid BY PROGRAM, IN A SANDBOX (cutbox-rows.mjs): the forced cells as the released guide's own fill.sh prints them over the translation b901f8a0b7bf3bee… (all of the seat's roots in one cut). By AI agents, Wed Nov 11 2026. No macro, syntax, notation, axiom, sorry.
-/
import Derived.Test.YtgijekhlbkfanaaChecked
import GoSem.Claim
import GoSem.ClaimJoined
import GoSem.ClaimMapViews
import Derived.JoinedTies
import Derived.KernelRfl
namespace Go.Proofs.Ytgijekhlbkfanaa
/- THE CELL 'sum', in the pinned program and in every row, IS THE sha256 OF THE DUMP (.gsa) THAT YtgijekhlbkfanaaProg.lean LOADS. Nothing in Lean hashes anything: it is a label: what it is worth is what the hold of that sum in a sandbox is worth. -/
noncomputable def Try.pinned : Pinned := { name := "ytgijekhlbkfanaa", sum := "b901f8a0b7bf3bee9f268948d90c3f0b92a748d1682eb7be600ef444ff99c55e", checked := Try.checked }
namespace Rows
def none {H : Type} : Left H := { results := [], args := [] }

/-- 'steeplejacklaw09.JobPrices': WHATEVER THE INPUT: true; the input reads as it did. -/
def jobPricesSpec : ChangeSpec := { name := "jobPrices", fn := fun _ => fun
  | [d1, d2, d3, d4, d5] => { results := [.lit (.bool true)], args := [d1, d2, d3, d4, d5] }
  | _ => none }
def jobPricesRow : OpenClaim := { program := "ytgijekhlbkfanaa", sum := "b901f8a0b7bf3bee9f268948d90c3f0b92a748d1682eb7be600ef444ff99c55e", func := "steeplejack/steeplejacklaw09.JobPrices", spec := "jobPrices", unfollowed := true, recurses := true, apart := false }
def JobPricesSaid : Prop := jobPricesRow.holds Try.pinned (OpenSpec.ofChange jobPricesSpec)

/-- ITS FALSE NEIGHBOUR: 'it returns false'. Refute it at one input. -/
def jobPricesWrong : ChangeSpec := { name := "jobPrices", fn := fun _ => fun
  | [d1, d2, d3, d4, d5] => { results := [.lit (.bool false)], args := [d1, d2, d3, d4, d5] }
  | _ => none }
def JobPricesWrongFalsely : Prop := jobPricesRow.holds Try.pinned (OpenSpec.ofChange jobPricesWrong)

/-- 'steeplejacklaw09.JobChains': WHATEVER THE INPUT: true; the input reads as it did. -/
def jobChainsSpec : ChangeSpec := { name := "jobChains", fn := fun _ => fun
  | [d1, d2] => { results := [.lit (.bool true)], args := [d1, d2] }
  | _ => none }
def jobChainsRow : OpenClaim := { program := "ytgijekhlbkfanaa", sum := "b901f8a0b7bf3bee9f268948d90c3f0b92a748d1682eb7be600ef444ff99c55e", func := "steeplejack/steeplejacklaw09.JobChains", spec := "jobChains", unfollowed := true, recurses := true, apart := false }
def JobChainsSaid : Prop := jobChainsRow.holds Try.pinned (OpenSpec.ofChange jobChainsSpec)

/-- ITS FALSE NEIGHBOUR: 'it returns false'. Refute it at one input. -/
def jobChainsWrong : ChangeSpec := { name := "jobChains", fn := fun _ => fun
  | [d1, d2] => { results := [.lit (.bool false)], args := [d1, d2] }
  | _ => none }
def JobChainsWrongFalsely : Prop := jobChainsRow.holds Try.pinned (OpenSpec.ofChange jobChainsWrong)

/-- 'steeplejacklaw09.JobChecks': WHATEVER THE INPUT: true; the input reads as it did. -/
def jobChecksSpec : ChangeSpec := { name := "jobChecks", fn := fun _ => fun
  | [d] => { results := [.lit (.bool true)], args := [d] }
  | _ => none }
def jobChecksRow : OpenClaim := { program := "ytgijekhlbkfanaa", sum := "b901f8a0b7bf3bee9f268948d90c3f0b92a748d1682eb7be600ef444ff99c55e", func := "steeplejack/steeplejacklaw09.JobChecks", spec := "jobChecks", unfollowed := true, recurses := true, apart := false }
def JobChecksSaid : Prop := jobChecksRow.holds Try.pinned (OpenSpec.ofChange jobChecksSpec)

/-- ITS FALSE NEIGHBOUR: 'it returns false'. Refute it at one input. -/
def jobChecksWrong : ChangeSpec := { name := "jobChecks", fn := fun _ => fun
  | [d] => { results := [.lit (.bool false)], args := [d] }
  | _ => none }
def JobChecksWrongFalsely : Prop := jobChecksRow.holds Try.pinned (OpenSpec.ofChange jobChecksWrong)

/-- 'steeplejacklaw09.JobSlack': WHATEVER THE INPUT: true; the input reads as it did. -/
def jobSlackSpec : ChangeSpec := { name := "jobSlack", fn := fun _ => fun
  | [d1, d2] => { results := [.lit (.bool true)], args := [d1, d2] }
  | _ => none }
def jobSlackRow : OpenClaim := { program := "ytgijekhlbkfanaa", sum := "b901f8a0b7bf3bee9f268948d90c3f0b92a748d1682eb7be600ef444ff99c55e", func := "steeplejack/steeplejacklaw09.JobSlack", spec := "jobSlack", unfollowed := true, recurses := true, apart := false }
def JobSlackSaid : Prop := jobSlackRow.holds Try.pinned (OpenSpec.ofChange jobSlackSpec)

/-- ITS FALSE NEIGHBOUR: 'it returns false'. Refute it at one input. -/
def jobSlackWrong : ChangeSpec := { name := "jobSlack", fn := fun _ => fun
  | [d1, d2] => { results := [.lit (.bool false)], args := [d1, d2] }
  | _ => none }
def JobSlackWrongFalsely : Prop := jobSlackRow.holds Try.pinned (OpenSpec.ofChange jobSlackWrong)

/-- 'steeplejacklaw09.JobDelays': WHATEVER THE INPUT: true; the input reads as it did. -/
def jobDelaysSpec : ChangeSpec := { name := "jobDelays", fn := fun _ => fun
  | [d1, d2, d3] => { results := [.lit (.bool true)], args := [d1, d2, d3] }
  | _ => none }
def jobDelaysRow : OpenClaim := { program := "ytgijekhlbkfanaa", sum := "b901f8a0b7bf3bee9f268948d90c3f0b92a748d1682eb7be600ef444ff99c55e", func := "steeplejack/steeplejacklaw09.JobDelays", spec := "jobDelays", unfollowed := true, recurses := true, apart := false }
def JobDelaysSaid : Prop := jobDelaysRow.holds Try.pinned (OpenSpec.ofChange jobDelaysSpec)

/-- ITS FALSE NEIGHBOUR: 'it returns false'. Refute it at one input. -/
def jobDelaysWrong : ChangeSpec := { name := "jobDelays", fn := fun _ => fun
  | [d1, d2, d3] => { results := [.lit (.bool false)], args := [d1, d2, d3] }
  | _ => none }
def JobDelaysWrongFalsely : Prop := jobDelaysRow.holds Try.pinned (OpenSpec.ofChange jobDelaysWrong)

/-- 'steeplejacklaw09.JobAmple': WHATEVER THE INPUT: true; the input reads as it did. -/
def jobAmpleSpec : ChangeSpec := { name := "jobAmple", fn := fun _ => fun
  | [d] => { results := [.lit (.bool true)], args := [d] }
  | _ => none }
def jobAmpleRow : OpenClaim := { program := "ytgijekhlbkfanaa", sum := "b901f8a0b7bf3bee9f268948d90c3f0b92a748d1682eb7be600ef444ff99c55e", func := "steeplejack/steeplejacklaw09.JobAmple", spec := "jobAmple", unfollowed := true, recurses := true, apart := false }
def JobAmpleSaid : Prop := jobAmpleRow.holds Try.pinned (OpenSpec.ofChange jobAmpleSpec)

/-- ITS FALSE NEIGHBOUR: 'it returns false'. Refute it at one input. -/
def jobAmpleWrong : ChangeSpec := { name := "jobAmple", fn := fun _ => fun
  | [d] => { results := [.lit (.bool false)], args := [d] }
  | _ => none }
def JobAmpleWrongFalsely : Prop := jobAmpleRow.holds Try.pinned (OpenSpec.ofChange jobAmpleWrong)

/-- 'steeplejacklaw09.JobSchedules': WHATEVER THE INPUT: true; the input reads as it did. -/
def jobSchedulesSpec : ChangeSpec := { name := "jobSchedules", fn := fun _ => fun
  | [d1, d2, d3, d4] => { results := [.lit (.bool true)], args := [d1, d2, d3, d4] }
  | _ => none }
def jobSchedulesRow : OpenClaim := { program := "ytgijekhlbkfanaa", sum := "b901f8a0b7bf3bee9f268948d90c3f0b92a748d1682eb7be600ef444ff99c55e", func := "steeplejack/steeplejacklaw09.JobSchedules", spec := "jobSchedules", unfollowed := true, recurses := true, apart := false }
def JobSchedulesSaid : Prop := jobSchedulesRow.holds Try.pinned (OpenSpec.ofChange jobSchedulesSpec)

/-- ITS FALSE NEIGHBOUR: 'it returns false'. Refute it at one input. -/
def jobSchedulesWrong : ChangeSpec := { name := "jobSchedules", fn := fun _ => fun
  | [d1, d2, d3, d4] => { results := [.lit (.bool false)], args := [d1, d2, d3, d4] }
  | _ => none }
def JobSchedulesWrongFalsely : Prop := jobSchedulesRow.holds Try.pinned (OpenSpec.ofChange jobSchedulesWrong)

/-- 'steeplejacktop.TopListed': WHATEVER THE INPUT: true; the input reads as it did. -/
def topListedSpec : ChangeSpec := { name := "topListed", fn := fun _ => fun
  | [d1, d2] => { results := [.lit (.bool true)], args := [d1, d2] }
  | _ => none }
def topListedRow : OpenClaim := { program := "ytgijekhlbkfanaa", sum := "b901f8a0b7bf3bee9f268948d90c3f0b92a748d1682eb7be600ef444ff99c55e", func := "steeplejack/steeplejacktop.TopListed", spec := "topListed", unfollowed := true, recurses := true, apart := false }
def TopListedSaid : Prop := topListedRow.holds Try.pinned (OpenSpec.ofChange topListedSpec)

/-- ITS FALSE NEIGHBOUR: 'it returns false'. Refute it at one input. -/
def topListedWrong : ChangeSpec := { name := "topListed", fn := fun _ => fun
  | [d1, d2] => { results := [.lit (.bool false)], args := [d1, d2] }
  | _ => none }
def TopListedWrongFalsely : Prop := topListedRow.holds Try.pinned (OpenSpec.ofChange topListedWrong)

/- THE SECOND FORM. 'bulk': how many values and letters a reading holds, each counted each time it is reached (what is shared counts as often as it is met; a slice's spare places count too). A statement '..UptoSaid' is the law's where the arguments, and the package variables that the reading takes, are together of bulk at most 1048576: NARROWER than '..Said'. Prove '..Said' where nothing that the law and all that it calls make is longer than what came in: it says more and counts as full. Else prove '..UptoSaid'. A law counts once. -/
mutual
def uptoBulk {H : Type} : DataW H → Nat
  | .lit (.string bytes) => bytes.length + 1
  | .lit _ => 1
  | .nil => 1
  | .ptr d => uptoBulk d + 1
  | .slice elems spare => uptoBulkAll elems + uptoBulkAll spare + 1
  | .agg parts => uptoBulkAll parts + 1
  | .iface _ d => uptoBulk d + 1
  | .map entries => uptoBulkEntries entries + 1
  | .held _ => 1
def uptoBulkAll {H : Type} : List (DataW H) → Nat
  | [] => 0
  | d :: r => uptoBulk d + uptoBulkAll r
def uptoBulkEntries {H : Type} : List (Lit × DataW H) → Nat
  | [] => 0
  | x :: r => uptoBulkEntry x + uptoBulkEntries r
def uptoBulkEntry {H : Type} : Lit × DataW H → Nat
  | (.string bytes, d) => bytes.length + uptoBulk d + 1
  | (_, d) => uptoBulk d + 1
 end
def uptoSmall : (H : Type) → List (DataW H) → Bool := fun _ ds => decide (uptoBulkAll ds ≤ 1048576)
def OpenSpec.upto (s : _root_.Go.ChangeSpec) : _root_.Go.OpenSpec := { _root_.Go.OpenSpec.ofChange s with cond := some uptoSmall }

/-- 'steeplejacklaw09.JobPrices', WHERE WHAT IT READS IS OF BULK AT MOST 1048576: true; the input reads as it did. -/
def jobPricesUptoRow : OpenClaim := { program := "ytgijekhlbkfanaa", sum := "b901f8a0b7bf3bee9f268948d90c3f0b92a748d1682eb7be600ef444ff99c55e", func := "steeplejack/steeplejacklaw09.JobPrices", spec := "jobPrices", unfollowed := true, recurses := true, apart := false, narrowed := true }
def JobPricesUptoSaid : Prop := jobPricesUptoRow.holds Try.pinned (OpenSpec.upto jobPricesSpec)

/-- 'steeplejacklaw09.JobChains', WHERE WHAT IT READS IS OF BULK AT MOST 1048576: true; the input reads as it did. -/
def jobChainsUptoRow : OpenClaim := { program := "ytgijekhlbkfanaa", sum := "b901f8a0b7bf3bee9f268948d90c3f0b92a748d1682eb7be600ef444ff99c55e", func := "steeplejack/steeplejacklaw09.JobChains", spec := "jobChains", unfollowed := true, recurses := true, apart := false, narrowed := true }
def JobChainsUptoSaid : Prop := jobChainsUptoRow.holds Try.pinned (OpenSpec.upto jobChainsSpec)

/-- 'steeplejacklaw09.JobChecks', WHERE WHAT IT READS IS OF BULK AT MOST 1048576: true; the input reads as it did. -/
def jobChecksUptoRow : OpenClaim := { program := "ytgijekhlbkfanaa", sum := "b901f8a0b7bf3bee9f268948d90c3f0b92a748d1682eb7be600ef444ff99c55e", func := "steeplejack/steeplejacklaw09.JobChecks", spec := "jobChecks", unfollowed := true, recurses := true, apart := false, narrowed := true }
def JobChecksUptoSaid : Prop := jobChecksUptoRow.holds Try.pinned (OpenSpec.upto jobChecksSpec)

/-- 'steeplejacklaw09.JobSlack', WHERE WHAT IT READS IS OF BULK AT MOST 1048576: true; the input reads as it did. -/
def jobSlackUptoRow : OpenClaim := { program := "ytgijekhlbkfanaa", sum := "b901f8a0b7bf3bee9f268948d90c3f0b92a748d1682eb7be600ef444ff99c55e", func := "steeplejack/steeplejacklaw09.JobSlack", spec := "jobSlack", unfollowed := true, recurses := true, apart := false, narrowed := true }
def JobSlackUptoSaid : Prop := jobSlackUptoRow.holds Try.pinned (OpenSpec.upto jobSlackSpec)

/-- 'steeplejacklaw09.JobDelays', WHERE WHAT IT READS IS OF BULK AT MOST 1048576: true; the input reads as it did. -/
def jobDelaysUptoRow : OpenClaim := { program := "ytgijekhlbkfanaa", sum := "b901f8a0b7bf3bee9f268948d90c3f0b92a748d1682eb7be600ef444ff99c55e", func := "steeplejack/steeplejacklaw09.JobDelays", spec := "jobDelays", unfollowed := true, recurses := true, apart := false, narrowed := true }
def JobDelaysUptoSaid : Prop := jobDelaysUptoRow.holds Try.pinned (OpenSpec.upto jobDelaysSpec)

/-- 'steeplejacklaw09.JobAmple', WHERE WHAT IT READS IS OF BULK AT MOST 1048576: true; the input reads as it did. -/
def jobAmpleUptoRow : OpenClaim := { program := "ytgijekhlbkfanaa", sum := "b901f8a0b7bf3bee9f268948d90c3f0b92a748d1682eb7be600ef444ff99c55e", func := "steeplejack/steeplejacklaw09.JobAmple", spec := "jobAmple", unfollowed := true, recurses := true, apart := false, narrowed := true }
def JobAmpleUptoSaid : Prop := jobAmpleUptoRow.holds Try.pinned (OpenSpec.upto jobAmpleSpec)

/-- 'steeplejacklaw09.JobSchedules', WHERE WHAT IT READS IS OF BULK AT MOST 1048576: true; the input reads as it did. -/
def jobSchedulesUptoRow : OpenClaim := { program := "ytgijekhlbkfanaa", sum := "b901f8a0b7bf3bee9f268948d90c3f0b92a748d1682eb7be600ef444ff99c55e", func := "steeplejack/steeplejacklaw09.JobSchedules", spec := "jobSchedules", unfollowed := true, recurses := true, apart := false, narrowed := true }
def JobSchedulesUptoSaid : Prop := jobSchedulesUptoRow.holds Try.pinned (OpenSpec.upto jobSchedulesSpec)

/-- 'steeplejacktop.TopListed', WHERE WHAT IT READS IS OF BULK AT MOST 1048576: true; the input reads as it did. -/
def topListedUptoRow : OpenClaim := { program := "ytgijekhlbkfanaa", sum := "b901f8a0b7bf3bee9f268948d90c3f0b92a748d1682eb7be600ef444ff99c55e", func := "steeplejack/steeplejacktop.TopListed", spec := "topListed", unfollowed := true, recurses := true, apart := false, narrowed := true }
def TopListedUptoSaid : Prop := topListedUptoRow.holds Try.pinned (OpenSpec.upto topListedSpec)

end Rows
end Go.Proofs.Ytgijekhlbkfanaa
