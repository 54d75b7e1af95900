/-
  NARROWER THAN 'FOR EVERY INPUT', by the rows' own cells (each row's printed sentence says how): IndexSelects: laid · IndexNew: laid.
  DERIVED. THE GIVEN ROWS OF THIS SEAT. 2 by the template 'for every input the law returns true; each argument reads behind the call as it read before'; 0 by the template 'total and deterministic' (their statements: YtpcpfjpcfcbopaaGreatDoorTotals.lean).
  GIVEN WITH THE SEED: the statements are not yours to turn. If you find one false, say at which input.
  Laid BY PROGRAM, IN A SANDBOX (cutbox-rows.mjs): the forced cells as the released guide's own fill.sh prints them over the translation 9218a134521059e1… (all of the seat's roots in one cut). By AI agents, Wed Nov 11 2026. No macro, syntax, notation, axiom, sorry.
-/
import Derived.Test.YtpcpfjpcfcbopaaGreatDoorChecked
import GoSem.Claim
import GoSem.ClaimJoined
import GoSem.ClaimMapViews
import Derived.JoinedTies
import Derived.KernelRfl
namespace Go.Proofs.YtpcpfjpcfcbopaaGreatDoor
/- THE CELL 'sum', in the pinned program and in every row, IS THE sha256 OF THE DUMP (.gsa) THAT YtpcpfjpcfcbopaaGreatDoorProg.lean LOADS. Nothing in Lean hashes anything: it is a label: what it is worth is what the hold of that sum in a sandbox is worth. -/
noncomputable def Tryz.pinned : Pinned := { name := "ytpcpfjpcfcbopaagreatdoor", sum := "9218a134521059e1adc2de1348029c1f89c7dd0cf90dcd2a8c617a04e47be9e5", checked := Tryz.checked }
namespace Rows
def none {H : Type} : Left H := { results := [], args := [] }

/- WHAT THE LISTED PACKAGE-LEVEL VARIABLES READ AS WHEN THE CALL BEGINS. Each datum BY PROGRAM (the guide's laid-datum.mjs) off the statement by which the dump's own 'gosem.cut.vars' lays the variable. In a bare row this is a premise. The card (YtpcpfjpcfcbopaaGreatDoorCards.lean) ties it to the program's text. -/
def laid_limnograph_glob_none {H : Type} : DataW H := .agg [.lit (.int .i64 0), .lit (.int .i64 0)]

/-- 'limnographlaw35.IndexSelects': WHATEVER THE INPUT: true; the input reads as it did. -/
def indexSelectsSpec : ChangeSpec := { name := "indexSelects", fn := fun _ => fun
  | [d1, d2] => { results := [.lit (.bool true)], args := [d1, d2] }
  | _ => none }
def indexSelectsRow : OpenClaim := { program := "ytpcpfjpcfcbopaagreatdoor", sum := "9218a134521059e1adc2de1348029c1f89c7dd0cf90dcd2a8c617a04e47be9e5", func := "limnograph/limnographlaw35.IndexSelects", spec := "indexSelects", inPlace := ["internal/bytealg.IndexByteString", "internal/bytealg.IndexString", "math.Float64frombits", "math/bits.Add64"], unfollowed := true, recurses := true, named := ["internal/bytealg.MaxLen", "limnograph/glob.none"], plainKeys := false, apart := false, laid := [("limnograph/glob.none", laid_limnograph_glob_none)] }
def IndexSelectsSaid : Prop := indexSelectsRow.holds Tryz.pinned (OpenSpec.ofChange indexSelectsSpec)

/-- ITS FALSE NEIGHBOUR: 'it returns false'. Refute it at one input. -/
def indexSelectsWrong : ChangeSpec := { name := "indexSelects", fn := fun _ => fun
  | [d1, d2] => { results := [.lit (.bool false)], args := [d1, d2] }
  | _ => none }
def IndexSelectsWrongFalsely : Prop := indexSelectsRow.holds Tryz.pinned (OpenSpec.ofChange indexSelectsWrong)

/-- 'limnographlaw35.IndexNew': WHATEVER THE INPUT: true; the input reads as it did. -/
def indexNewSpec : ChangeSpec := { name := "indexNew", fn := fun _ => fun
  | [d1, d2, d3, d4] => { results := [.lit (.bool true)], args := [d1, d2, d3, d4] }
  | _ => none }
def indexNewRow : OpenClaim := { program := "ytpcpfjpcfcbopaagreatdoor", sum := "9218a134521059e1adc2de1348029c1f89c7dd0cf90dcd2a8c617a04e47be9e5", func := "limnograph/limnographlaw35.IndexNew", spec := "indexNew", inPlace := ["internal/bytealg.IndexByteString", "internal/bytealg.IndexString", "math.Float64frombits", "math/bits.Add64"], unfollowed := true, recurses := true, named := ["internal/bytealg.MaxLen", "limnograph/glob.none"], plainKeys := false, apart := false, laid := [("limnograph/glob.none", laid_limnograph_glob_none)] }
def IndexNewSaid : Prop := indexNewRow.holds Tryz.pinned (OpenSpec.ofChange indexNewSpec)

/-- ITS FALSE NEIGHBOUR: 'it returns false'. Refute it at one input. -/
def indexNewWrong : ChangeSpec := { name := "indexNew", fn := fun _ => fun
  | [d1, d2, d3, d4] => { results := [.lit (.bool false)], args := [d1, d2, d3, d4] }
  | _ => none }
def IndexNewWrongFalsely : Prop := indexNewRow.holds Tryz.pinned (OpenSpec.ofChange indexNewWrong)

/- THE SECOND FORM. 'bulk': how many values and letters a reading holds, each counted each time it is reached (what is shared counts as often as it is met; a slice's spare places count too). A statement '..UptoSaid' is the law's where the arguments, and the package variables that the reading takes, are together of bulk at most 1048576: NARROWER than '..Said'. Prove '..Said' where nothing that the law and all that it calls make is longer than what came in: it says more and counts as full. Else prove '..UptoSaid'. A law counts once. -/
mutual
def uptoBulk {H : Type} : DataW H → Nat
  | .lit (.string bytes) => bytes.length + 1
  | .lit _ => 1
  | .nil => 1
  | .ptr d => uptoBulk d + 1
  | .slice elems spare => uptoBulkAll elems + uptoBulkAll spare + 1
  | .agg parts => uptoBulkAll parts + 1
  | .iface _ d => uptoBulk d + 1
  | .map entries => uptoBulkEntries entries + 1
  | .held _ => 1
def uptoBulkAll {H : Type} : List (DataW H) → Nat
  | [] => 0
  | d :: r => uptoBulk d + uptoBulkAll r
def uptoBulkEntries {H : Type} : List (Lit × DataW H) → Nat
  | [] => 0
  | x :: r => uptoBulkEntry x + uptoBulkEntries r
def uptoBulkEntry {H : Type} : Lit × DataW H → Nat
  | (.string bytes, d) => bytes.length + uptoBulk d + 1
  | (_, d) => uptoBulk d + 1
 end
def uptoSmall : (H : Type) → List (DataW H) → Bool := fun _ ds => decide (uptoBulkAll ds ≤ 1048576)
def OpenSpec.upto (s : _root_.Go.ChangeSpec) : _root_.Go.OpenSpec := { _root_.Go.OpenSpec.ofChange s with cond := some uptoSmall }

/-- 'limnographlaw35.IndexSelects', WHERE WHAT IT READS IS OF BULK AT MOST 1048576: true; the input reads as it did. -/
def indexSelectsUptoRow : OpenClaim := { program := "ytpcpfjpcfcbopaagreatdoor", sum := "9218a134521059e1adc2de1348029c1f89c7dd0cf90dcd2a8c617a04e47be9e5", func := "limnograph/limnographlaw35.IndexSelects", spec := "indexSelects", inPlace := ["internal/bytealg.IndexByteString", "internal/bytealg.IndexString", "math.Float64frombits", "math/bits.Add64"], unfollowed := true, recurses := true, named := ["internal/bytealg.MaxLen", "limnograph/glob.none"], plainKeys := false, apart := false, laid := [("limnograph/glob.none", laid_limnograph_glob_none)], narrowed := true }
def IndexSelectsUptoSaid : Prop := indexSelectsUptoRow.holds Tryz.pinned (OpenSpec.upto indexSelectsSpec)

/-- 'limnographlaw35.IndexNew', WHERE WHAT IT READS IS OF BULK AT MOST 1048576: true; the input reads as it did. -/
def indexNewUptoRow : OpenClaim := { program := "ytpcpfjpcfcbopaagreatdoor", sum := "9218a134521059e1adc2de1348029c1f89c7dd0cf90dcd2a8c617a04e47be9e5", func := "limnograph/limnographlaw35.IndexNew", spec := "indexNew", inPlace := ["internal/bytealg.IndexByteString", "internal/bytealg.IndexString", "math.Float64frombits", "math/bits.Add64"], unfollowed := true, recurses := true, named := ["internal/bytealg.MaxLen", "limnograph/glob.none"], plainKeys := false, apart := false, laid := [("limnograph/glob.none", laid_limnograph_glob_none)], narrowed := true }
def IndexNewUptoSaid : Prop := indexNewUptoRow.holds Tryz.pinned (OpenSpec.upto indexNewSpec)

end Rows
end Go.Proofs.YtpcpfjpcfcbopaaGreatDoor
