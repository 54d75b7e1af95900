/-
  No cell of these rows narrows 'for every input' (looked for: loops, veiled, ifaces, maps, wideKeys, modest, calm, conditions, laid).
  DERIVED. THE GIVEN ROWS OF THIS SEAT. 5 by the template 'for every input the law returns true; each argument reads behind the call as it read before'; 0 by the template 'total and deterministic' (their statements: YtaikmpmokihciaaGreatTotals.lean).
  GIVEN WITH THE SEED: the statements are not yours to turn. If you find one false, say at which input.
  Laid BY PROGRAM, IN A SANDBOX (cutbox-rows.mjs): the forced cells as the released guide's own fill.sh prints them over the translation aab1e09823dbfc06… (all of the seat's roots in one cut). By AI agents, Wed Nov 11 2026. No macro, syntax, notation, axiom, sorry.
-/
import Derived.Test.YtaikmpmokihciaaGreatChecked
import GoSem.Claim
import GoSem.ClaimJoined
import GoSem.ClaimMapViews
import Derived.JoinedTies
import Derived.KernelRfl
namespace Go.Proofs.YtaikmpmokihciaaGreat
/- THE CELL 'sum', in the pinned program and in every row, IS THE sha256 OF THE DUMP (.gsa) THAT YtaikmpmokihciaaGreatProg.lean LOADS. Nothing in Lean hashes anything: it is a label: what it is worth is what the hold of that sum in a sandbox is worth. -/
noncomputable def Tryz.pinned : Pinned := { name := "ytaikmpmokihciaagreat", sum := "aab1e09823dbfc068bc3fce7a3e88f032637b47557f0be42bb4610c690ea19e5", checked := Tryz.checked }
namespace Rows
def none {H : Type} : Left H := { results := [], args := [] }

/-- 'limnographlaw17.ConvertApart': WHATEVER THE INPUT: true; the input reads as it did. -/
def convertApartSpec : ChangeSpec := { name := "convertApart", fn := fun _ => fun
  | [d1, d2, d3] => { results := [.lit (.bool true)], args := [d1, d2, d3] }
  | _ => none }
def convertApartRow : OpenClaim := { program := "ytaikmpmokihciaagreat", sum := "aab1e09823dbfc068bc3fce7a3e88f032637b47557f0be42bb4610c690ea19e5", func := "limnograph/limnographlaw17.ConvertApart", spec := "convertApart", inPlace := ["math.Float64frombits", "math/bits.Add64", "internal/abi.NoEscape", "math.Float64bits"], unfollowed := true, recurses := true, apart := false }
def ConvertApartSaid : Prop := convertApartRow.holds Tryz.pinned (OpenSpec.ofChange convertApartSpec)

/-- ITS FALSE NEIGHBOUR: 'it returns false'. Refute it at one input. -/
def convertApartWrong : ChangeSpec := { name := "convertApart", fn := fun _ => fun
  | [d1, d2, d3] => { results := [.lit (.bool false)], args := [d1, d2, d3] }
  | _ => none }
def ConvertApartWrongFalsely : Prop := convertApartRow.holds Tryz.pinned (OpenSpec.ofChange convertApartWrong)

/-- 'limnographlaw17.ConvertTakes': WHATEVER THE INPUT: true; the input reads as it did. -/
def convertTakesSpec : ChangeSpec := { name := "convertTakes", fn := fun _ => fun
  | [d1, d2] => { results := [.lit (.bool true)], args := [d1, d2] }
  | _ => none }
def convertTakesRow : OpenClaim := { program := "ytaikmpmokihciaagreat", sum := "aab1e09823dbfc068bc3fce7a3e88f032637b47557f0be42bb4610c690ea19e5", func := "limnograph/limnographlaw17.ConvertTakes", spec := "convertTakes", inPlace := ["math.Float64frombits", "math/bits.Add64", "internal/abi.NoEscape", "math.Float64bits"], unfollowed := true, recurses := true, apart := false }
def ConvertTakesSaid : Prop := convertTakesRow.holds Tryz.pinned (OpenSpec.ofChange convertTakesSpec)

/-- ITS FALSE NEIGHBOUR: 'it returns false'. Refute it at one input. -/
def convertTakesWrong : ChangeSpec := { name := "convertTakes", fn := fun _ => fun
  | [d1, d2] => { results := [.lit (.bool false)], args := [d1, d2] }
  | _ => none }
def ConvertTakesWrongFalsely : Prop := convertTakesRow.holds Tryz.pinned (OpenSpec.ofChange convertTakesWrong)

/-- 'limnographlaw17.ConvertRight': WHATEVER THE INPUT: true; the input reads as it did. -/
def convertRightSpec : ChangeSpec := { name := "convertRight", fn := fun _ => fun
  | [d1, d2] => { results := [.lit (.bool true)], args := [d1, d2] }
  | _ => none }
def convertRightRow : OpenClaim := { program := "ytaikmpmokihciaagreat", sum := "aab1e09823dbfc068bc3fce7a3e88f032637b47557f0be42bb4610c690ea19e5", func := "limnograph/limnographlaw17.ConvertRight", spec := "convertRight", inPlace := ["math.Float64frombits", "math/bits.Add64", "internal/abi.NoEscape", "math.Float64bits"], unfollowed := true, recurses := true, apart := false }
def ConvertRightSaid : Prop := convertRightRow.holds Tryz.pinned (OpenSpec.ofChange convertRightSpec)

/-- ITS FALSE NEIGHBOUR: 'it returns false'. Refute it at one input. -/
def convertRightWrong : ChangeSpec := { name := "convertRight", fn := fun _ => fun
  | [d1, d2] => { results := [.lit (.bool false)], args := [d1, d2] }
  | _ => none }
def ConvertRightWrongFalsely : Prop := convertRightRow.holds Tryz.pinned (OpenSpec.ofChange convertRightWrong)

/-- 'limnographlaw17.ConvertLoads': WHATEVER THE INPUT: true; the input reads as it did. -/
def convertLoadsSpec : ChangeSpec := { name := "convertLoads", fn := fun _ => fun
  | [d1, d2] => { results := [.lit (.bool true)], args := [d1, d2] }
  | _ => none }
def convertLoadsRow : OpenClaim := { program := "ytaikmpmokihciaagreat", sum := "aab1e09823dbfc068bc3fce7a3e88f032637b47557f0be42bb4610c690ea19e5", func := "limnograph/limnographlaw17.ConvertLoads", spec := "convertLoads", inPlace := ["math.Float64frombits", "math/bits.Add64", "internal/abi.NoEscape", "math.Float64bits", "internal/bytealg.IndexByteString", "internal/bytealg.IndexString"], unfollowed := true, recurses := true, named := ["internal/bytealg.MaxLen"], apart := false }
def ConvertLoadsSaid : Prop := convertLoadsRow.holds Tryz.pinned (OpenSpec.ofChange convertLoadsSpec)

/-- ITS FALSE NEIGHBOUR: 'it returns false'. Refute it at one input. -/
def convertLoadsWrong : ChangeSpec := { name := "convertLoads", fn := fun _ => fun
  | [d1, d2] => { results := [.lit (.bool false)], args := [d1, d2] }
  | _ => none }
def ConvertLoadsWrongFalsely : Prop := convertLoadsRow.holds Tryz.pinned (OpenSpec.ofChange convertLoadsWrong)

/-- 'limnographlaw17.ConvertGoes': WHATEVER THE INPUT: true; the input reads as it did. -/
def convertGoesSpec : ChangeSpec := { name := "convertGoes", fn := fun _ => fun
  | [d1, d2, d3] => { results := [.lit (.bool true)], args := [d1, d2, d3] }
  | _ => none }
def convertGoesRow : OpenClaim := { program := "ytaikmpmokihciaagreat", sum := "aab1e09823dbfc068bc3fce7a3e88f032637b47557f0be42bb4610c690ea19e5", func := "limnograph/limnographlaw17.ConvertGoes", spec := "convertGoes", inPlace := ["math.Float64frombits", "math/bits.Add64", "internal/abi.NoEscape", "math.Float64bits", "internal/bytealg.IndexByteString", "internal/bytealg.IndexString", "maps.clone"], unfollowed := true, recurses := true, named := ["internal/bytealg.MaxLen"], apart := false }
def ConvertGoesSaid : Prop := convertGoesRow.holds Tryz.pinned (OpenSpec.ofChange convertGoesSpec)

/-- ITS FALSE NEIGHBOUR: 'it returns false'. Refute it at one input. -/
def convertGoesWrong : ChangeSpec := { name := "convertGoes", fn := fun _ => fun
  | [d1, d2, d3] => { results := [.lit (.bool false)], args := [d1, d2, d3] }
  | _ => none }
def ConvertGoesWrongFalsely : Prop := convertGoesRow.holds Tryz.pinned (OpenSpec.ofChange convertGoesWrong)

/- THE SECOND FORM. 'bulk': how many values and letters a reading holds, each counted each time it is reached (what is shared counts as often as it is met; a slice's spare places count too). A statement '..UptoSaid' is the law's where the arguments, and the package variables that the reading takes, are together of bulk at most 1048576: NARROWER than '..Said'. Prove '..Said' where nothing that the law and all that it calls make is longer than what came in: it says more and counts as full. Else prove '..UptoSaid'. A law counts once. -/
mutual
def uptoBulk {H : Type} : DataW H → Nat
  | .lit (.string bytes) => bytes.length + 1
  | .lit _ => 1
  | .nil => 1
  | .ptr d => uptoBulk d + 1
  | .slice elems spare => uptoBulkAll elems + uptoBulkAll spare + 1
  | .agg parts => uptoBulkAll parts + 1
  | .iface _ d => uptoBulk d + 1
  | .map entries => uptoBulkEntries entries + 1
  | .held _ => 1
def uptoBulkAll {H : Type} : List (DataW H) → Nat
  | [] => 0
  | d :: r => uptoBulk d + uptoBulkAll r
def uptoBulkEntries {H : Type} : List (Lit × DataW H) → Nat
  | [] => 0
  | x :: r => uptoBulkEntry x + uptoBulkEntries r
def uptoBulkEntry {H : Type} : Lit × DataW H → Nat
  | (.string bytes, d) => bytes.length + uptoBulk d + 1
  | (_, d) => uptoBulk d + 1
 end
def uptoSmall : (H : Type) → List (DataW H) → Bool := fun _ ds => decide (uptoBulkAll ds ≤ 1048576)
def OpenSpec.upto (s : _root_.Go.ChangeSpec) : _root_.Go.OpenSpec := { _root_.Go.OpenSpec.ofChange s with cond := some uptoSmall }

/-- 'limnographlaw17.ConvertApart', WHERE WHAT IT READS IS OF BULK AT MOST 1048576: true; the input reads as it did. -/
def convertApartUptoRow : OpenClaim := { program := "ytaikmpmokihciaagreat", sum := "aab1e09823dbfc068bc3fce7a3e88f032637b47557f0be42bb4610c690ea19e5", func := "limnograph/limnographlaw17.ConvertApart", spec := "convertApart", inPlace := ["math.Float64frombits", "math/bits.Add64", "internal/abi.NoEscape", "math.Float64bits"], unfollowed := true, recurses := true, apart := false, narrowed := true }
def ConvertApartUptoSaid : Prop := convertApartUptoRow.holds Tryz.pinned (OpenSpec.upto convertApartSpec)

/-- 'limnographlaw17.ConvertTakes', WHERE WHAT IT READS IS OF BULK AT MOST 1048576: true; the input reads as it did. -/
def convertTakesUptoRow : OpenClaim := { program := "ytaikmpmokihciaagreat", sum := "aab1e09823dbfc068bc3fce7a3e88f032637b47557f0be42bb4610c690ea19e5", func := "limnograph/limnographlaw17.ConvertTakes", spec := "convertTakes", inPlace := ["math.Float64frombits", "math/bits.Add64", "internal/abi.NoEscape", "math.Float64bits"], unfollowed := true, recurses := true, apart := false, narrowed := true }
def ConvertTakesUptoSaid : Prop := convertTakesUptoRow.holds Tryz.pinned (OpenSpec.upto convertTakesSpec)

/-- 'limnographlaw17.ConvertRight', WHERE WHAT IT READS IS OF BULK AT MOST 1048576: true; the input reads as it did. -/
def convertRightUptoRow : OpenClaim := { program := "ytaikmpmokihciaagreat", sum := "aab1e09823dbfc068bc3fce7a3e88f032637b47557f0be42bb4610c690ea19e5", func := "limnograph/limnographlaw17.ConvertRight", spec := "convertRight", inPlace := ["math.Float64frombits", "math/bits.Add64", "internal/abi.NoEscape", "math.Float64bits"], unfollowed := true, recurses := true, apart := false, narrowed := true }
def ConvertRightUptoSaid : Prop := convertRightUptoRow.holds Tryz.pinned (OpenSpec.upto convertRightSpec)

/-- 'limnographlaw17.ConvertLoads', WHERE WHAT IT READS IS OF BULK AT MOST 1048576: true; the input reads as it did. -/
def convertLoadsUptoRow : OpenClaim := { program := "ytaikmpmokihciaagreat", sum := "aab1e09823dbfc068bc3fce7a3e88f032637b47557f0be42bb4610c690ea19e5", func := "limnograph/limnographlaw17.ConvertLoads", spec := "convertLoads", inPlace := ["math.Float64frombits", "math/bits.Add64", "internal/abi.NoEscape", "math.Float64bits", "internal/bytealg.IndexByteString", "internal/bytealg.IndexString"], unfollowed := true, recurses := true, named := ["internal/bytealg.MaxLen"], apart := false, narrowed := true }
def ConvertLoadsUptoSaid : Prop := convertLoadsUptoRow.holds Tryz.pinned (OpenSpec.upto convertLoadsSpec)

/-- 'limnographlaw17.ConvertGoes', WHERE WHAT IT READS IS OF BULK AT MOST 1048576: true; the input reads as it did. -/
def convertGoesUptoRow : OpenClaim := { program := "ytaikmpmokihciaagreat", sum := "aab1e09823dbfc068bc3fce7a3e88f032637b47557f0be42bb4610c690ea19e5", func := "limnograph/limnographlaw17.ConvertGoes", spec := "convertGoes", inPlace := ["math.Float64frombits", "math/bits.Add64", "internal/abi.NoEscape", "math.Float64bits", "internal/bytealg.IndexByteString", "internal/bytealg.IndexString", "maps.clone"], unfollowed := true, recurses := true, named := ["internal/bytealg.MaxLen"], apart := false, narrowed := true }
def ConvertGoesUptoSaid : Prop := convertGoesUptoRow.holds Tryz.pinned (OpenSpec.upto convertGoesSpec)

end Rows
end Go.Proofs.YtaikmpmokihciaaGreat
