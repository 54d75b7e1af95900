/-
  No cell of these rows narrows 'for every input' (looked for: loops, veiled, ifaces, maps, wideKeys, modest, calm, conditions, laid).
  DERIVED. THE GIVEN ROWS OF THIS SEAT. 4 by the template 'for every input the law returns true; each argument reads behind the call as it read before'; 0 by the template 'total and deterministic' (their statements: YtjadbkfodoodaaaTotals.lean).
  GIVEN WITH THE SEED: the statements are not yours to turn. If you find one false, say at which input.
  Laid BY PROGRAM, IN A SANDBOX (cutbox-rows.mjs): the forced cells as the released guide's own fill.sh prints them over the translation 444856e5fa6723ad… (all of the seat's roots in one cut). By AI agents, Wed Nov 11 2026. No macro, syntax, notation, axiom, sorry.
-/
import Derived.Test.YtjadbkfodoodaaaChecked
import GoSem.Claim
import GoSem.ClaimJoined
import GoSem.ClaimMapViews
import Derived.JoinedTies
import Derived.KernelRfl
namespace Go.Proofs.Ytjadbkfodoodaaa
/- THE CELL 'sum', in the pinned program and in every row, IS THE sha256 OF THE DUMP (.gsa) THAT YtjadbkfodoodaaaProg.lean LOADS. Nothing in Lean hashes anything: it is a label: what it is worth is what the hold of that sum in a sandbox is worth. -/
noncomputable def Try.pinned : Pinned := { name := "ytjadbkfodoodaaa", sum := "444856e5fa6723ad9d4372a3c2b952d7812d1bf9601936a1f8d243bf502de5c5", checked := Try.checked }
namespace Rows
def none {H : Type} : Left H := { results := [], args := [] }

/-- 'limnographlaw11.LabelTexts': WHATEVER THE INPUT: true; the input reads as it did. -/
def labelTextsSpec : ChangeSpec := { name := "labelTexts", fn := fun _ => fun
  | [d1, d2] => { results := [.lit (.bool true)], args := [d1, d2] }
  | _ => none }
def labelTextsRow : OpenClaim := { program := "ytjadbkfodoodaaa", sum := "444856e5fa6723ad9d4372a3c2b952d7812d1bf9601936a1f8d243bf502de5c5", func := "limnograph/limnographlaw11.LabelTexts", spec := "labelTexts", inPlace := ["internal/abi.NoEscape", "internal/bytealg.IndexByteString", "internal/bytealg.IndexString"], unfollowed := true, recurses := true, named := ["internal/bytealg.MaxLen"], apart := false }
def LabelTextsSaid : Prop := labelTextsRow.holds Try.pinned (OpenSpec.ofChange labelTextsSpec)

/-- ITS FALSE NEIGHBOUR: 'it returns false'. Refute it at one input. -/
def labelTextsWrong : ChangeSpec := { name := "labelTexts", fn := fun _ => fun
  | [d1, d2] => { results := [.lit (.bool false)], args := [d1, d2] }
  | _ => none }
def LabelTextsWrongFalsely : Prop := labelTextsRow.holds Try.pinned (OpenSpec.ofChange labelTextsWrong)

/-- 'limnographlaw11.LabelParses': WHATEVER THE INPUT: true; the input reads as it did. -/
def labelParsesSpec : ChangeSpec := { name := "labelParses", fn := fun _ => fun
  | [d] => { results := [.lit (.bool true)], args := [d] }
  | _ => none }
def labelParsesRow : OpenClaim := { program := "ytjadbkfodoodaaa", sum := "444856e5fa6723ad9d4372a3c2b952d7812d1bf9601936a1f8d243bf502de5c5", func := "limnograph/limnographlaw11.LabelParses", spec := "labelParses", inPlace := ["internal/abi.NoEscape", "internal/bytealg.IndexByteString", "internal/bytealg.IndexString"], unfollowed := true, recurses := true, named := ["internal/bytealg.MaxLen"], apart := false }
def LabelParsesSaid : Prop := labelParsesRow.holds Try.pinned (OpenSpec.ofChange labelParsesSpec)

/-- ITS FALSE NEIGHBOUR: 'it returns false'. Refute it at one input. -/
def labelParsesWrong : ChangeSpec := { name := "labelParses", fn := fun _ => fun
  | [d] => { results := [.lit (.bool false)], args := [d] }
  | _ => none }
def LabelParsesWrongFalsely : Prop := labelParsesRow.holds Try.pinned (OpenSpec.ofChange labelParsesWrong)

/-- 'limnographlaw11.LabelBack': WHATEVER THE INPUT: true; the input reads as it did. -/
def labelBackSpec : ChangeSpec := { name := "labelBack", fn := fun _ => fun
  | [d1, d2, d3, d4] => { results := [.lit (.bool true)], args := [d1, d2, d3, d4] }
  | _ => none }
def labelBackRow : OpenClaim := { program := "ytjadbkfodoodaaa", sum := "444856e5fa6723ad9d4372a3c2b952d7812d1bf9601936a1f8d243bf502de5c5", func := "limnograph/limnographlaw11.LabelBack", spec := "labelBack", inPlace := ["internal/abi.NoEscape", "internal/bytealg.IndexByteString", "internal/bytealg.IndexString"], unfollowed := true, recurses := true, named := ["internal/bytealg.MaxLen"], apart := false }
def LabelBackSaid : Prop := labelBackRow.holds Try.pinned (OpenSpec.ofChange labelBackSpec)

/-- ITS FALSE NEIGHBOUR: 'it returns false'. Refute it at one input. -/
def labelBackWrong : ChangeSpec := { name := "labelBack", fn := fun _ => fun
  | [d1, d2, d3, d4] => { results := [.lit (.bool false)], args := [d1, d2, d3, d4] }
  | _ => none }
def LabelBackWrongFalsely : Prop := labelBackRow.holds Try.pinned (OpenSpec.ofChange labelBackWrong)

/-- 'limnographlaw11.LabelMatches': WHATEVER THE INPUT: true; the input reads as it did. -/
def labelMatchesSpec : ChangeSpec := { name := "labelMatches", fn := fun _ => fun
  | [d1, d2, d3, d4] => { results := [.lit (.bool true)], args := [d1, d2, d3, d4] }
  | _ => none }
def labelMatchesRow : OpenClaim := { program := "ytjadbkfodoodaaa", sum := "444856e5fa6723ad9d4372a3c2b952d7812d1bf9601936a1f8d243bf502de5c5", func := "limnograph/limnographlaw11.LabelMatches", spec := "labelMatches", inPlace := ["internal/abi.NoEscape", "internal/bytealg.IndexByteString", "internal/bytealg.IndexString"], unfollowed := true, recurses := true, named := ["internal/bytealg.MaxLen"], apart := false }
def LabelMatchesSaid : Prop := labelMatchesRow.holds Try.pinned (OpenSpec.ofChange labelMatchesSpec)

/-- ITS FALSE NEIGHBOUR: 'it returns false'. Refute it at one input. -/
def labelMatchesWrong : ChangeSpec := { name := "labelMatches", fn := fun _ => fun
  | [d1, d2, d3, d4] => { results := [.lit (.bool false)], args := [d1, d2, d3, d4] }
  | _ => none }
def LabelMatchesWrongFalsely : Prop := labelMatchesRow.holds Try.pinned (OpenSpec.ofChange labelMatchesWrong)

/- THE SECOND FORM. 'bulk': how many values and letters a reading holds, each counted each time it is reached (what is shared counts as often as it is met; a slice's spare places count too). A statement '..UptoSaid' is the law's where the arguments, and the package variables that the reading takes, are together of bulk at most 1048576: NARROWER than '..Said'. Prove '..Said' where nothing that the law and all that it calls make is longer than what came in: it says more and counts as full. Else prove '..UptoSaid'. A law counts once. -/
mutual
def uptoBulk {H : Type} : DataW H → Nat
  | .lit (.string bytes) => bytes.length + 1
  | .lit _ => 1
  | .nil => 1
  | .ptr d => uptoBulk d + 1
  | .slice elems spare => uptoBulkAll elems + uptoBulkAll spare + 1
  | .agg parts => uptoBulkAll parts + 1
  | .iface _ d => uptoBulk d + 1
  | .map entries => uptoBulkEntries entries + 1
  | .held _ => 1
def uptoBulkAll {H : Type} : List (DataW H) → Nat
  | [] => 0
  | d :: r => uptoBulk d + uptoBulkAll r
def uptoBulkEntries {H : Type} : List (Lit × DataW H) → Nat
  | [] => 0
  | x :: r => uptoBulkEntry x + uptoBulkEntries r
def uptoBulkEntry {H : Type} : Lit × DataW H → Nat
  | (.string bytes, d) => bytes.length + uptoBulk d + 1
  | (_, d) => uptoBulk d + 1
 end
def uptoSmall : (H : Type) → List (DataW H) → Bool := fun _ ds => decide (uptoBulkAll ds ≤ 1048576)
def OpenSpec.upto (s : _root_.Go.ChangeSpec) : _root_.Go.OpenSpec := { _root_.Go.OpenSpec.ofChange s with cond := some uptoSmall }

/-- 'limnographlaw11.LabelTexts', WHERE WHAT IT READS IS OF BULK AT MOST 1048576: true; the input reads as it did. -/
def labelTextsUptoRow : OpenClaim := { program := "ytjadbkfodoodaaa", sum := "444856e5fa6723ad9d4372a3c2b952d7812d1bf9601936a1f8d243bf502de5c5", func := "limnograph/limnographlaw11.LabelTexts", spec := "labelTexts", inPlace := ["internal/abi.NoEscape", "internal/bytealg.IndexByteString", "internal/bytealg.IndexString"], unfollowed := true, recurses := true, named := ["internal/bytealg.MaxLen"], apart := false, narrowed := true }
def LabelTextsUptoSaid : Prop := labelTextsUptoRow.holds Try.pinned (OpenSpec.upto labelTextsSpec)

/-- 'limnographlaw11.LabelParses', WHERE WHAT IT READS IS OF BULK AT MOST 1048576: true; the input reads as it did. -/
def labelParsesUptoRow : OpenClaim := { program := "ytjadbkfodoodaaa", sum := "444856e5fa6723ad9d4372a3c2b952d7812d1bf9601936a1f8d243bf502de5c5", func := "limnograph/limnographlaw11.LabelParses", spec := "labelParses", inPlace := ["internal/abi.NoEscape", "internal/bytealg.IndexByteString", "internal/bytealg.IndexString"], unfollowed := true, recurses := true, named := ["internal/bytealg.MaxLen"], apart := false, narrowed := true }
def LabelParsesUptoSaid : Prop := labelParsesUptoRow.holds Try.pinned (OpenSpec.upto labelParsesSpec)

/-- 'limnographlaw11.LabelBack', WHERE WHAT IT READS IS OF BULK AT MOST 1048576: true; the input reads as it did. -/
def labelBackUptoRow : OpenClaim := { program := "ytjadbkfodoodaaa", sum := "444856e5fa6723ad9d4372a3c2b952d7812d1bf9601936a1f8d243bf502de5c5", func := "limnograph/limnographlaw11.LabelBack", spec := "labelBack", inPlace := ["internal/abi.NoEscape", "internal/bytealg.IndexByteString", "internal/bytealg.IndexString"], unfollowed := true, recurses := true, named := ["internal/bytealg.MaxLen"], apart := false, narrowed := true }
def LabelBackUptoSaid : Prop := labelBackUptoRow.holds Try.pinned (OpenSpec.upto labelBackSpec)

/-- 'limnographlaw11.LabelMatches', WHERE WHAT IT READS IS OF BULK AT MOST 1048576: true; the input reads as it did. -/
def labelMatchesUptoRow : OpenClaim := { program := "ytjadbkfodoodaaa", sum := "444856e5fa6723ad9d4372a3c2b952d7812d1bf9601936a1f8d243bf502de5c5", func := "limnograph/limnographlaw11.LabelMatches", spec := "labelMatches", inPlace := ["internal/abi.NoEscape", "internal/bytealg.IndexByteString", "internal/bytealg.IndexString"], unfollowed := true, recurses := true, named := ["internal/bytealg.MaxLen"], apart := false, narrowed := true }
def LabelMatchesUptoSaid : Prop := labelMatchesUptoRow.holds Try.pinned (OpenSpec.upto labelMatchesSpec)

end Rows
end Go.Proofs.Ytjadbkfodoodaaa
