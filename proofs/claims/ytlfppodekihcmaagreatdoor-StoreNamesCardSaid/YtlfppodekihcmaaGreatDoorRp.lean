/-
  The library's 'strings.Repeat' at this program: the shelf's contract laid in plain words by a program.
-/
import Derived.Shelf.Strings.Repeat
import Derived.Ground.NamesProg
import Derived.Test.YtlfppodekihcmaaGreatDoorWzb
import Derived.Test.YtlfppodekihcmaaGreatDoorProg
namespace Go.Proofs
open Go.Shelf Go.RowKit
def Tryz.rep_ren : Go.Shelf.Ren := ⟨fun | 105 => 30 | 212 => 65 | 99 => 40 | 165 => 66 | 166 => 67 | 170 => 68 | 169 => 69 | 263 => 92 | 264 => 93 | 206 => 73 | 240 => 94 | 241 => 95 | 276 => 116 | 277 => 117 | n => n, fun | 9 => 9 | 3 => 3 | 4 => 4 | 20 => 20 | 0 => 0 | 46 => 109 | 109 => 110 | 5 => 5 | 72 => 114 | 76 => 117 | 51 => 160 | 146 => 163 | 53 => 137 | 148 => 165 | 70 => 112 | 37 => 51 | 75 => 116 | 127 => 167 | 164 => 198 | 80 => 119 | n => n, fun | n => n⟩
theorem Tryz.rep : Go.Proofs.Lays.n105 Tryz.prog Tryz.rep_ren := {
  mixed := by kernel_rfl
  f99 := Tryz.func40.trans (congrArg some (by kernel_rfl))
  f105 := Tryz.func30.trans (congrArg some (by kernel_rfl))
  f165 := Tryz.func66.trans (congrArg some (by kernel_rfl))
  f166 := Tryz.func67.trans (congrArg some (by kernel_rfl))
  f169 := Tryz.func69.trans (congrArg some (by kernel_rfl))
  f170 := Tryz.func68.trans (congrArg some (by kernel_rfl))
  f206 := Tryz.func73.trans (congrArg some (by kernel_rfl))
  f212 := Tryz.func65.trans (congrArg some (by kernel_rfl))
  f240 := Tryz.func94.trans (congrArg some (by kernel_rfl))
  f241 := Tryz.func95.trans (congrArg some (by kernel_rfl))
  f263 := Tryz.func92.trans (congrArg some (by kernel_rfl))
  f264 := Tryz.func93.trans (congrArg some (by kernel_rfl))
  f276 := Tryz.func116.trans (congrArg some (by kernel_rfl))
  f277 := Tryz.func117.trans (congrArg some (by kernel_rfl))
  t0 := Tryz.underlying0
  a0 := Tryz.isAgg0
  z0 := Tryz.sizeOf0
  v0 := Tryz.zeroValue0
  t3 := Tryz.underlying3
  a3 := Tryz.isAgg3
  z3 := Tryz.sizeOf3
  v3 := Tryz.zeroValue3
  t4 := Tryz.underlying4
  a4 := Tryz.isAgg4
  z4 := Tryz.sizeOf4
  v4 := Tryz.zeroValue4
  t5 := Tryz.underlying5
  a5 := Tryz.isAgg5
  z5 := Tryz.sizeOf5
  v5 := Tryz.zeroValue5
  t9 := Tryz.underlying9
  a9 := Tryz.isAgg9
  z9 := Tryz.sizeOf9
  v9 := Tryz.zeroValue9
  t20 := Tryz.underlying20
  a20 := Tryz.isAgg20
  z20 := Tryz.sizeOf20
  v20 := Tryz.zeroValue20
  t37 := Tryz.underlying51
  a37 := Tryz.isAgg51
  z37 := Tryz.sizeOf51
  v37 := Tryz.zeroValue51
  t46 := Tryz.underlying109
  a46 := Tryz.isAgg109
  z46 := Tryz.sizeOf109
  v46 := Tryz.zeroValue109
  t51 := Tryz.underlying160
  a51 := Tryz.isAgg160
  z51 := Tryz.sizeOf160
  v51 := Tryz.zeroValue160
  t53 := Tryz.underlying137
  a53 := Tryz.isAgg137
  z53 := Tryz.sizeOf137
  v53 := Tryz.zeroValue137
  t70 := Tryz.underlying112
  a70 := Tryz.isAgg112
  z70 := Tryz.sizeOf112
  v70 := Tryz.zeroValue112
  t72 := Tryz.underlying114
  a72 := Tryz.isAgg114
  z72 := Tryz.sizeOf114
  v72 := Tryz.zeroValue114
  t75 := Tryz.underlying116
  a75 := Tryz.isAgg116
  z75 := Tryz.sizeOf116
  v75 := Tryz.zeroValue116
  t76 := Tryz.underlying117
  a76 := Tryz.isAgg117
  z76 := Tryz.sizeOf117
  v76 := Tryz.zeroValue117
  t109 := Tryz.underlying110
  a109 := Tryz.isAgg110
  z109 := Tryz.sizeOf110
  v109 := Tryz.zeroValue110
  t127 := Tryz.underlying167
  a127 := Tryz.isAgg167
  z127 := Tryz.sizeOf167
  v127 := Tryz.zeroValue167
  t146 := Tryz.underlying163
  a146 := Tryz.isAgg163
  z146 := Tryz.sizeOf163
  v146 := Tryz.zeroValue163
  t148 := Tryz.underlying165
  a148 := Tryz.isAgg165
  z148 := Tryz.sizeOf165
  v148 := Tryz.zeroValue165
  t164 := Tryz.underlying198
  a164 := Tryz.isAgg198
  z164 := Tryz.sizeOf198
  v164 := Tryz.zeroValue198 }

theorem Tryz.repX : Builder.Extra Tryz.prog Tryz.rep_ren where
  sizeBuilder := by kernel_rfl
  liesBuilder := by kernel_rfl
  t5 := Tryz.rep.t5
  a5 := Tryz.rep.a5
  z5 := Tryz.rep.z5
  v5 := Tryz.rep.v5
  infoByte := by kernel_rfl
  cellsByte := by kernel_rfl
  sizeByte := by kernel_rfl
  neB5 := by decide
theorem Tryz.repF : Tryz.rep_ren.f 105 = 30 := by kernel_rfl
theorem Tryz.repeats {s : List UInt8} {c : Int} (w : World) {r : List UInt8} (h : Go.Wk.repE s c = some r) :
    Calls Tryz.prog 30 #[.string ⟨s.toArray⟩, .int .i64 c] w fun x w' => x = .returned (.string ⟨r.toArray⟩) ∧ Go.Wk.Ext w w' := by
  obtain ⟨h0, h1, rfl⟩ := Go.Wk.repE_some h
  obtain ⟨k, rfl⟩ : ∃ k : Nat, c = (k : Int) := ⟨c.toNat, by omega⟩
  have h2 := Any.strings_Repeat Tryz.rep Tryz.repX ⟨s.toArray⟩ k w (by omega) (by simpa [ByteArray.size] using h1.2)
  rw [Tryz.repF] at h2
  refine h2.mono fun e w' hw => ⟨?_, Go.Wk.Ext.of_below hw.2⟩
  rw [hw.1]
  have e : ∀ k, Lib.repeatL s k = (List.replicate k s).flatten := by
    intro k
    induction k with
    | zero => rfl
    | succ k ih => rw [Lib.repeatL, List.replicate_succ, List.flatten_cons, ih]
  rw [e]
  rfl
end Go.Proofs
