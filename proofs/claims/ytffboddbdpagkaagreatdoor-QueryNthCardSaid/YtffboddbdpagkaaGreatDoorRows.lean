/-
  NARROWER THAN 'FOR EVERY INPUT', by the rows' own cells (each row's printed sentence says how): QueryRuns: laid · QueryNth: laid · QueryBelow: laid · QueryParts: laid.
  DERIVED. THE GIVEN ROWS OF THIS SEAT. 4 by the template 'for every input the law returns true; each argument reads behind the call as it read before'; 0 by the template 'total and deterministic' (their statements: YtffboddbdpagkaaGreatDoorTotals.lean).
  GIVEN WITH THE SEED: the statements are not yours to turn. If you find one false, say at which input.
  Laid BY PROGRAM, IN A SANDBOX (cutbox-rows.mjs): the forced cells as the released guide's own fill.sh prints them over the translation e1b0e23884295fed… (all of the seat's roots in one cut). By AI agents, Wed Nov 11 2026. No macro, syntax, notation, axiom, sorry.
-/
import Derived.Test.YtffboddbdpagkaaGreatDoorChecked
import GoSem.Claim
import GoSem.ClaimJoined
import GoSem.ClaimMapViews
import Derived.JoinedTies
import Derived.KernelRfl
namespace Go.Proofs.YtffboddbdpagkaaGreatDoor
/- THE CELL 'sum', in the pinned program and in every row, IS THE sha256 OF THE DUMP (.gsa) THAT YtffboddbdpagkaaGreatDoorProg.lean LOADS. Nothing in Lean hashes anything: it is a label: what it is worth is what the hold of that sum in a sandbox is worth. -/
noncomputable def Tryz.pinned : Pinned := { name := "ytffboddbdpagkaagreatdoor", sum := "e1b0e23884295fed18976109d5075e3f59ee0b73de7aeb9670298aed46224dc7", checked := Tryz.checked }
namespace Rows
def none {H : Type} : Left H := { results := [], args := [] }

/- WHAT THE LISTED PACKAGE-LEVEL VARIABLES READ AS WHEN THE CALL BEGINS. Each datum BY PROGRAM (the guide's laid-datum.mjs) off the statement by which the dump's own 'gosem.cut.vars' lays the variable. In a bare row this is a premise. The card (YtffboddbdpagkaaGreatDoorCards.lean) ties it to the program's text. -/
def laid_limnograph_glob_none {H : Type} : DataW H := .agg [.lit (.int .i64 0), .lit (.int .i64 0)]

/-- 'limnographlaw37.QueryRuns': WHATEVER THE INPUT: true; the input reads as it did. -/
def queryRunsSpec : ChangeSpec := { name := "queryRuns", fn := fun _ => fun
  | [d1, d2] => { results := [.lit (.bool true)], args := [d1, d2] }
  | _ => none }
def queryRunsRow : OpenClaim := { program := "ytffboddbdpagkaagreatdoor", sum := "e1b0e23884295fed18976109d5075e3f59ee0b73de7aeb9670298aed46224dc7", func := "limnograph/limnographlaw37.QueryRuns", spec := "queryRuns", inPlace := ["math/bits.Add64", "math.Float64frombits", "internal/abi.NoEscape", "internal/bytealg.IndexByteString", "internal/bytealg.IndexString", "math.Float64bits"], unfollowed := true, recurses := true, named := ["math/bits.divideError", "math/bits.overflowError", "internal/bytealg.MaxLen", "limnograph/glob.none"], plainKeys := false, apart := false, laid := [("limnograph/glob.none", laid_limnograph_glob_none)] }
def QueryRunsSaid : Prop := queryRunsRow.holds Tryz.pinned (OpenSpec.ofChange queryRunsSpec)

/-- ITS FALSE NEIGHBOUR: 'it returns false'. Refute it at one input. -/
def queryRunsWrong : ChangeSpec := { name := "queryRuns", fn := fun _ => fun
  | [d1, d2] => { results := [.lit (.bool false)], args := [d1, d2] }
  | _ => none }
def QueryRunsWrongFalsely : Prop := queryRunsRow.holds Tryz.pinned (OpenSpec.ofChange queryRunsWrong)

/-- 'limnographlaw37.QueryNth': WHATEVER THE INPUT: true; the input reads as it did. -/
def queryNthSpec : ChangeSpec := { name := "queryNth", fn := fun _ => fun
  | [d1, d2, d3, d4] => { results := [.lit (.bool true)], args := [d1, d2, d3, d4] }
  | _ => none }
def queryNthRow : OpenClaim := { program := "ytffboddbdpagkaagreatdoor", sum := "e1b0e23884295fed18976109d5075e3f59ee0b73de7aeb9670298aed46224dc7", func := "limnograph/limnographlaw37.QueryNth", spec := "queryNth", inPlace := ["math/bits.Add64", "math.Float64frombits", "internal/abi.NoEscape", "internal/bytealg.IndexByteString", "internal/bytealg.IndexString", "math.Float64bits"], unfollowed := true, recurses := true, named := ["math/bits.divideError", "math/bits.overflowError", "internal/bytealg.MaxLen", "limnograph/glob.none"], plainKeys := false, apart := false, laid := [("limnograph/glob.none", laid_limnograph_glob_none)] }
def QueryNthSaid : Prop := queryNthRow.holds Tryz.pinned (OpenSpec.ofChange queryNthSpec)

/-- ITS FALSE NEIGHBOUR: 'it returns false'. Refute it at one input. -/
def queryNthWrong : ChangeSpec := { name := "queryNth", fn := fun _ => fun
  | [d1, d2, d3, d4] => { results := [.lit (.bool false)], args := [d1, d2, d3, d4] }
  | _ => none }
def QueryNthWrongFalsely : Prop := queryNthRow.holds Tryz.pinned (OpenSpec.ofChange queryNthWrong)

/-- 'limnographlaw37.QueryBelow': WHATEVER THE INPUT: true; the input reads as it did. -/
def queryBelowSpec : ChangeSpec := { name := "queryBelow", fn := fun _ => fun
  | [d1, d2, d3, d4] => { results := [.lit (.bool true)], args := [d1, d2, d3, d4] }
  | _ => none }
def queryBelowRow : OpenClaim := { program := "ytffboddbdpagkaagreatdoor", sum := "e1b0e23884295fed18976109d5075e3f59ee0b73de7aeb9670298aed46224dc7", func := "limnograph/limnographlaw37.QueryBelow", spec := "queryBelow", inPlace := ["math/bits.Add64", "math.Float64frombits", "internal/abi.NoEscape", "internal/bytealg.IndexByteString", "internal/bytealg.IndexString", "math.Float64bits"], unfollowed := true, recurses := true, named := ["math/bits.divideError", "math/bits.overflowError", "internal/bytealg.MaxLen", "limnograph/glob.none"], plainKeys := false, apart := false, laid := [("limnograph/glob.none", laid_limnograph_glob_none)] }
def QueryBelowSaid : Prop := queryBelowRow.holds Tryz.pinned (OpenSpec.ofChange queryBelowSpec)

/-- ITS FALSE NEIGHBOUR: 'it returns false'. Refute it at one input. -/
def queryBelowWrong : ChangeSpec := { name := "queryBelow", fn := fun _ => fun
  | [d1, d2, d3, d4] => { results := [.lit (.bool false)], args := [d1, d2, d3, d4] }
  | _ => none }
def QueryBelowWrongFalsely : Prop := queryBelowRow.holds Tryz.pinned (OpenSpec.ofChange queryBelowWrong)

/-- 'limnographlaw37.QueryParts': WHATEVER THE INPUT: true; the input reads as it did. -/
def queryPartsSpec : ChangeSpec := { name := "queryParts", fn := fun _ => fun
  | [d1, d2, d3] => { results := [.lit (.bool true)], args := [d1, d2, d3] }
  | _ => none }
def queryPartsRow : OpenClaim := { program := "ytffboddbdpagkaagreatdoor", sum := "e1b0e23884295fed18976109d5075e3f59ee0b73de7aeb9670298aed46224dc7", func := "limnograph/limnographlaw37.QueryParts", spec := "queryParts", inPlace := ["math/bits.Add64", "math.Float64frombits", "internal/abi.NoEscape", "internal/bytealg.IndexByteString", "internal/bytealg.IndexString", "math.Float64bits"], unfollowed := true, recurses := true, named := ["math/bits.divideError", "math/bits.overflowError", "internal/bytealg.MaxLen", "limnograph/glob.none"], plainKeys := false, apart := false, laid := [("limnograph/glob.none", laid_limnograph_glob_none)] }
def QueryPartsSaid : Prop := queryPartsRow.holds Tryz.pinned (OpenSpec.ofChange queryPartsSpec)

/-- ITS FALSE NEIGHBOUR: 'it returns false'. Refute it at one input. -/
def queryPartsWrong : ChangeSpec := { name := "queryParts", fn := fun _ => fun
  | [d1, d2, d3] => { results := [.lit (.bool false)], args := [d1, d2, d3] }
  | _ => none }
def QueryPartsWrongFalsely : Prop := queryPartsRow.holds Tryz.pinned (OpenSpec.ofChange queryPartsWrong)

/- THE SECOND FORM. 'bulk': how many values and letters a reading holds, each counted each time it is reached (what is shared counts as often as it is met; a slice's spare places count too). A statement '..UptoSaid' is the law's where the arguments, and the package variables that the reading takes, are together of bulk at most 1048576: NARROWER than '..Said'. Prove '..Said' where nothing that the law and all that it calls make is longer than what came in: it says more and counts as full. Else prove '..UptoSaid'. A law counts once. -/
mutual
def uptoBulk {H : Type} : DataW H → Nat
  | .lit (.string bytes) => bytes.length + 1
  | .lit _ => 1
  | .nil => 1
  | .ptr d => uptoBulk d + 1
  | .slice elems spare => uptoBulkAll elems + uptoBulkAll spare + 1
  | .agg parts => uptoBulkAll parts + 1
  | .iface _ d => uptoBulk d + 1
  | .map entries => uptoBulkEntries entries + 1
  | .held _ => 1
def uptoBulkAll {H : Type} : List (DataW H) → Nat
  | [] => 0
  | d :: r => uptoBulk d + uptoBulkAll r
def uptoBulkEntries {H : Type} : List (Lit × DataW H) → Nat
  | [] => 0
  | x :: r => uptoBulkEntry x + uptoBulkEntries r
def uptoBulkEntry {H : Type} : Lit × DataW H → Nat
  | (.string bytes, d) => bytes.length + uptoBulk d + 1
  | (_, d) => uptoBulk d + 1
 end
def uptoSmall : (H : Type) → List (DataW H) → Bool := fun _ ds => decide (uptoBulkAll ds ≤ 1048576)
def OpenSpec.upto (s : _root_.Go.ChangeSpec) : _root_.Go.OpenSpec := { _root_.Go.OpenSpec.ofChange s with cond := some uptoSmall }

/-- 'limnographlaw37.QueryRuns', WHERE WHAT IT READS IS OF BULK AT MOST 1048576: true; the input reads as it did. -/
def queryRunsUptoRow : OpenClaim := { program := "ytffboddbdpagkaagreatdoor", sum := "e1b0e23884295fed18976109d5075e3f59ee0b73de7aeb9670298aed46224dc7", func := "limnograph/limnographlaw37.QueryRuns", spec := "queryRuns", inPlace := ["math/bits.Add64", "math.Float64frombits", "internal/abi.NoEscape", "internal/bytealg.IndexByteString", "internal/bytealg.IndexString", "math.Float64bits"], unfollowed := true, recurses := true, named := ["math/bits.divideError", "math/bits.overflowError", "internal/bytealg.MaxLen", "limnograph/glob.none"], plainKeys := false, apart := false, laid := [("limnograph/glob.none", laid_limnograph_glob_none)], narrowed := true }
def QueryRunsUptoSaid : Prop := queryRunsUptoRow.holds Tryz.pinned (OpenSpec.upto queryRunsSpec)

/-- 'limnographlaw37.QueryNth', WHERE WHAT IT READS IS OF BULK AT MOST 1048576: true; the input reads as it did. -/
def queryNthUptoRow : OpenClaim := { program := "ytffboddbdpagkaagreatdoor", sum := "e1b0e23884295fed18976109d5075e3f59ee0b73de7aeb9670298aed46224dc7", func := "limnograph/limnographlaw37.QueryNth", spec := "queryNth", inPlace := ["math/bits.Add64", "math.Float64frombits", "internal/abi.NoEscape", "internal/bytealg.IndexByteString", "internal/bytealg.IndexString", "math.Float64bits"], unfollowed := true, recurses := true, named := ["math/bits.divideError", "math/bits.overflowError", "internal/bytealg.MaxLen", "limnograph/glob.none"], plainKeys := false, apart := false, laid := [("limnograph/glob.none", laid_limnograph_glob_none)], narrowed := true }
def QueryNthUptoSaid : Prop := queryNthUptoRow.holds Tryz.pinned (OpenSpec.upto queryNthSpec)

/-- 'limnographlaw37.QueryBelow', WHERE WHAT IT READS IS OF BULK AT MOST 1048576: true; the input reads as it did. -/
def queryBelowUptoRow : OpenClaim := { program := "ytffboddbdpagkaagreatdoor", sum := "e1b0e23884295fed18976109d5075e3f59ee0b73de7aeb9670298aed46224dc7", func := "limnograph/limnographlaw37.QueryBelow", spec := "queryBelow", inPlace := ["math/bits.Add64", "math.Float64frombits", "internal/abi.NoEscape", "internal/bytealg.IndexByteString", "internal/bytealg.IndexString", "math.Float64bits"], unfollowed := true, recurses := true, named := ["math/bits.divideError", "math/bits.overflowError", "internal/bytealg.MaxLen", "limnograph/glob.none"], plainKeys := false, apart := false, laid := [("limnograph/glob.none", laid_limnograph_glob_none)], narrowed := true }
def QueryBelowUptoSaid : Prop := queryBelowUptoRow.holds Tryz.pinned (OpenSpec.upto queryBelowSpec)

/-- 'limnographlaw37.QueryParts', WHERE WHAT IT READS IS OF BULK AT MOST 1048576: true; the input reads as it did. -/
def queryPartsUptoRow : OpenClaim := { program := "ytffboddbdpagkaagreatdoor", sum := "e1b0e23884295fed18976109d5075e3f59ee0b73de7aeb9670298aed46224dc7", func := "limnograph/limnographlaw37.QueryParts", spec := "queryParts", inPlace := ["math/bits.Add64", "math.Float64frombits", "internal/abi.NoEscape", "internal/bytealg.IndexByteString", "internal/bytealg.IndexString", "math.Float64bits"], unfollowed := true, recurses := true, named := ["math/bits.divideError", "math/bits.overflowError", "internal/bytealg.MaxLen", "limnograph/glob.none"], plainKeys := false, apart := false, laid := [("limnograph/glob.none", laid_limnograph_glob_none)], narrowed := true }
def QueryPartsUptoSaid : Prop := queryPartsUptoRow.holds Tryz.pinned (OpenSpec.upto queryPartsSpec)

end Rows
end Go.Proofs.YtffboddbdpagkaaGreatDoor
