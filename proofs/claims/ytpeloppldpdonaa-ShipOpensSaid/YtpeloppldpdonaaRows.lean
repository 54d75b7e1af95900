/-
  No cell of these rows narrows 'for every input' (looked for: loops, veiled, ifaces, maps, wideKeys, modest, calm, conditions, laid).
  DERIVED. THE GIVEN ROWS OF THIS SEAT. 2 by the template 'for every input the law returns true; each argument reads behind the call as it read before'; 0 by the template 'total and deterministic' (their statements: YtpeloppldpdonaaTotals.lean).
  GIVEN WITH THE SEED: the statements are not yours to turn. If you find one false, say at which input.
  Laid BY PROGRAM, IN A SANDBOX (cutbox-rows.mjs): the forced cells as the released guide's own fill.sh prints them over the translation eaa68493c2792a0c… (all of the seat's roots in one cut). By AI agents, Wed Nov 11 2026. No macro, syntax, notation, axiom, sorry.
-/
import Derived.Test.YtpeloppldpdonaaChecked
import GoSem.Claim
import GoSem.ClaimJoined
import GoSem.ClaimMapViews
import Derived.JoinedTies
import Derived.KernelRfl
namespace Go.Proofs.Ytpeloppldpdonaa
/- THE CELL 'sum', in the pinned program and in every row, IS THE sha256 OF THE DUMP (.gsa) THAT YtpeloppldpdonaaProg.lean LOADS. Nothing in Lean hashes anything: it is a label: what it is worth is what the hold of that sum in a sandbox is worth. -/
noncomputable def Try.pinned : Pinned := { name := "ytpeloppldpdonaa", sum := "eaa68493c2792a0c4faacaf8786733af983889a399e0f58cec2ef586f2709c08", checked := Try.checked }
namespace Rows
def none {H : Type} : Left H := { results := [], args := [] }

/-- 'limnographlaw25.ShipOpens': WHATEVER THE INPUT: true; the input reads as it did. -/
def shipOpensSpec : ChangeSpec := { name := "shipOpens", fn := fun _ => fun
  | [d] => { results := [.lit (.bool true)], args := [d] }
  | _ => none }
def shipOpensRow : OpenClaim := { program := "ytpeloppldpdonaa", sum := "eaa68493c2792a0c4faacaf8786733af983889a399e0f58cec2ef586f2709c08", func := "limnograph/limnographlaw25.ShipOpens", spec := "shipOpens", apart := false }
def ShipOpensSaid : Prop := shipOpensRow.holds Try.pinned (OpenSpec.ofChange shipOpensSpec)

/-- ITS FALSE NEIGHBOUR: 'it returns false'. Refute it at one input. -/
def shipOpensWrong : ChangeSpec := { name := "shipOpens", fn := fun _ => fun
  | [d] => { results := [.lit (.bool false)], args := [d] }
  | _ => none }
def ShipOpensWrongFalsely : Prop := shipOpensRow.holds Try.pinned (OpenSpec.ofChange shipOpensWrong)

/-- 'limnographlaw25.ShipDue': WHATEVER THE INPUT: true; the input reads as it did. -/
def shipDueSpec : ChangeSpec := { name := "shipDue", fn := fun _ => fun
  | [d1, d2, d3] => { results := [.lit (.bool true)], args := [d1, d2, d3] }
  | _ => none }
def shipDueRow : OpenClaim := { program := "ytpeloppldpdonaa", sum := "eaa68493c2792a0c4faacaf8786733af983889a399e0f58cec2ef586f2709c08", func := "limnograph/limnographlaw25.ShipDue", spec := "shipDue", apart := false }
def ShipDueSaid : Prop := shipDueRow.holds Try.pinned (OpenSpec.ofChange shipDueSpec)

/-- ITS FALSE NEIGHBOUR: 'it returns false'. Refute it at one input. -/
def shipDueWrong : ChangeSpec := { name := "shipDue", fn := fun _ => fun
  | [d1, d2, d3] => { results := [.lit (.bool false)], args := [d1, d2, d3] }
  | _ => none }
def ShipDueWrongFalsely : Prop := shipDueRow.holds Try.pinned (OpenSpec.ofChange shipDueWrong)

/- THE SECOND FORM. 'bulk': how many values and letters a reading holds, each counted each time it is reached (what is shared counts as often as it is met; a slice's spare places count too). A statement '..UptoSaid' is the law's where the arguments, and the package variables that the reading takes, are together of bulk at most 1048576: NARROWER than '..Said'. Prove '..Said' where nothing that the law and all that it calls make is longer than what came in: it says more and counts as full. Else prove '..UptoSaid'. A law counts once. -/
mutual
def uptoBulk {H : Type} : DataW H → Nat
  | .lit (.string bytes) => bytes.length + 1
  | .lit _ => 1
  | .nil => 1
  | .ptr d => uptoBulk d + 1
  | .slice elems spare => uptoBulkAll elems + uptoBulkAll spare + 1
  | .agg parts => uptoBulkAll parts + 1
  | .iface _ d => uptoBulk d + 1
  | .map entries => uptoBulkEntries entries + 1
  | .held _ => 1
def uptoBulkAll {H : Type} : List (DataW H) → Nat
  | [] => 0
  | d :: r => uptoBulk d + uptoBulkAll r
def uptoBulkEntries {H : Type} : List (Lit × DataW H) → Nat
  | [] => 0
  | x :: r => uptoBulkEntry x + uptoBulkEntries r
def uptoBulkEntry {H : Type} : Lit × DataW H → Nat
  | (.string bytes, d) => bytes.length + uptoBulk d + 1
  | (_, d) => uptoBulk d + 1
 end
def uptoSmall : (H : Type) → List (DataW H) → Bool := fun _ ds => decide (uptoBulkAll ds ≤ 1048576)
def OpenSpec.upto (s : _root_.Go.ChangeSpec) : _root_.Go.OpenSpec := { _root_.Go.OpenSpec.ofChange s with cond := some uptoSmall }

/-- 'limnographlaw25.ShipOpens', WHERE WHAT IT READS IS OF BULK AT MOST 1048576: true; the input reads as it did. -/
def shipOpensUptoRow : OpenClaim := { program := "ytpeloppldpdonaa", sum := "eaa68493c2792a0c4faacaf8786733af983889a399e0f58cec2ef586f2709c08", func := "limnograph/limnographlaw25.ShipOpens", spec := "shipOpens", apart := false, narrowed := true }
def ShipOpensUptoSaid : Prop := shipOpensUptoRow.holds Try.pinned (OpenSpec.upto shipOpensSpec)

/-- 'limnographlaw25.ShipDue', WHERE WHAT IT READS IS OF BULK AT MOST 1048576: true; the input reads as it did. -/
def shipDueUptoRow : OpenClaim := { program := "ytpeloppldpdonaa", sum := "eaa68493c2792a0c4faacaf8786733af983889a399e0f58cec2ef586f2709c08", func := "limnograph/limnographlaw25.ShipDue", spec := "shipDue", apart := false, narrowed := true }
def ShipDueUptoSaid : Prop := shipDueUptoRow.holds Try.pinned (OpenSpec.upto shipDueSpec)

end Rows
end Go.Proofs.Ytpeloppldpdonaa
