/-
  The library's 'slices.Sorted(maps.Keys(m))' at this program: the shelf's contracts laid in plain words by a program.
-/
import Derived.Shelf.SlIter.Nil
import Derived.Shelf.SortM.Plain
import Derived.Shelf.SortM.SortNone
import Derived.Test.YtlfppodekihcmaaGreatDoorProg
namespace Go.Proofs
open Go.RowKit Go.Maps Go.Sort Go.Shelf
def Tryz.keys72_ren : Go.Shelf.Ren := ⟨fun | 7 => 72 | 10 => 98 | n => n, fun | 23 => 69 | 26 => 9 | 3 => 75 | 28 => 123 | 0 => 0 | 27 => 122 | 33 => 74 | 4 => 4 | n => n, fun | n => n⟩
theorem Tryz.keys72 : Go.Proofs.SlLaysZ.n7 Tryz.prog Tryz.keys72_ren := {
  mixed := by kernel_rfl
  f7 := ⟨Tryz.f72.name, by decide, Tryz.func72.trans (congrArg some (by kernel_rfl))⟩
  f10 := ⟨Tryz.f98.name, by decide, Tryz.func98.trans (congrArg some (by kernel_rfl))⟩
  t0 := Tryz.underlying0
  a0 := Tryz.isAgg0
  z0 := Tryz.sizeOf0
  v0 := Tryz.zeroValue0
  t4 := Tryz.underlying4
  a4 := Tryz.isAgg4
  z4 := Tryz.sizeOf4
  v4 := Tryz.zeroValue4
  t23 := Tryz.underlying69
  a23 := Tryz.isAgg69
  z23 := Tryz.sizeOf69
  v23 := Tryz.zeroValue69
  t26 := Tryz.underlying9
  a26 := Tryz.isAgg9
  z26 := Tryz.sizeOf9
  v26 := Tryz.zeroValue9
  t27 := Tryz.underlying122
  a27 := Tryz.isAgg122
  z27 := Tryz.sizeOf122
  v27 := Tryz.zeroValue122
  t28 := Tryz.underlying123
  a28 := Tryz.isAgg123
  z28 := Tryz.sizeOf123
  v28 := Tryz.zeroValue123
  t33 := Tryz.underlying74
  a33 := Tryz.isAgg74
  z33 := Tryz.sizeOf74
  v33 := Tryz.zeroValue74 }
def Tryz.sorted71_ren : Go.Shelf.Ren := ⟨fun | 6 => 71 | 8 => 96 | 9 => 97 | 11 => 118 | 13 => 120 | 12 => 119 | 23 => 153 | 24 => 154 | 14 => 144 | 15 => 145 | 16 => 146 | 17 => 147 | 18 => 148 | 19 => 149 | 20 => 150 | 21 => 151 | 22 => 152 | 25 => 186 | 26 => 187 | 27 => 188 | 28 => 189 | 29 => 190 | 30 => 191 | 31 => 225 | n => n, fun | 26 => 9 | 28 => 123 | 24 => 87 | 0 => 0 | 3 => 3 | 37 => 109 | 48 => 160 | 50 => 137 | 4 => 4 | 40 => 234 | 39 => 233 | 45 => 238 | 5 => 5 | 9 => 9 | 51 => 272 | 55 => 275 | 57 => 303 | 58 => 304 | 33 => 74 | n => n, fun | n => n⟩
theorem Tryz.sorted71 : Go.Proofs.SlLaysZ.n6 Tryz.prog Tryz.sorted71_ren := {
  mixed := by kernel_rfl
  f6 := ⟨Tryz.f71.name, by decide, Tryz.func71.trans (congrArg some (by kernel_rfl))⟩
  f8 := ⟨Tryz.f96.name, by decide, Tryz.func96.trans (congrArg some (by kernel_rfl))⟩
  f11 := ⟨Tryz.f118.name, by decide, Tryz.func118.trans (congrArg some (by kernel_rfl))⟩
  t0 := Tryz.underlying0
  a0 := Tryz.isAgg0
  z0 := Tryz.sizeOf0
  v0 := Tryz.zeroValue0
  t24 := Tryz.underlying87
  a24 := Tryz.isAgg87
  z24 := Tryz.sizeOf87
  v24 := Tryz.zeroValue87
  t26 := Tryz.underlying9
  a26 := Tryz.isAgg9
  z26 := Tryz.sizeOf9
  v26 := Tryz.zeroValue9
  t28 := Tryz.underlying123
  a28 := Tryz.isAgg123
  z28 := Tryz.sizeOf123
  v28 := Tryz.zeroValue123
  i26 := by kernel_rfl }
def Tryz.sort97_ren : Go.Shelf.Ren := ⟨fun | 6 => 97 | 8 => 120 | 9 => 119 | 19 => 153 | 20 => 154 | 21 => 144 | 22 => 145 | 23 => 146 | 24 => 147 | 25 => 148 | 26 => 149 | 27 => 150 | 28 => 151 | 29 => 152 | 36 => 186 | 31 => 187 | 32 => 188 | 37 => 189 | 38 => 190 | 39 => 191 | 41 => 225 | n => n, fun | 27 => 87 | 29 => 9 | 3 => 3 | 32 => 109 | 26 => 87 | 0 => 0 | 44 => 160 | 46 => 137 | 4 => 4 | 36 => 234 | 35 => 233 | 41 => 238 | 5 => 5 | 9 => 9 | 53 => 272 | 57 => 275 | 63 => 303 | 64 => 304 | n => n, fun | n => n⟩
theorem Tryz.sort97 : Go.Proofs.SlLaysM.n6 Tryz.prog Tryz.sort97_ren := {
  mixed := by kernel_rfl
  f6 := ⟨Tryz.f97.name, by decide, Tryz.func97.trans (congrArg some (by kernel_rfl))⟩
  f8 := Tryz.func120.trans (congrArg some (by kernel_rfl))
  f9 := ⟨Tryz.f119.name, by decide, Tryz.func119.trans (congrArg some (by kernel_rfl))⟩
  f19 := Tryz.func153.trans (congrArg some (by kernel_rfl))
  f20 := Tryz.func154.trans (congrArg some (by kernel_rfl))
  f21 := ⟨Tryz.f144.name, by decide, Tryz.func144.trans (congrArg some (by kernel_rfl))⟩
  f22 := ⟨Tryz.f145.name, by decide, Tryz.func145.trans (congrArg some (by kernel_rfl))⟩
  f23 := ⟨Tryz.f146.name, by decide, Tryz.func146.trans (congrArg some (by kernel_rfl))⟩
  f24 := ⟨Tryz.f147.name, by decide, Tryz.func147.trans (congrArg some (by kernel_rfl))⟩
  f25 := ⟨Tryz.f148.name, by decide, Tryz.func148.trans (congrArg some (by kernel_rfl))⟩
  f26 := ⟨Tryz.f149.name, by decide, Tryz.func149.trans (congrArg some (by kernel_rfl))⟩
  f27 := ⟨Tryz.f150.name, by decide, Tryz.func150.trans (congrArg some (by kernel_rfl))⟩
  f28 := ⟨Tryz.f151.name, by decide, Tryz.func151.trans (congrArg some (by kernel_rfl))⟩
  f29 := ⟨Tryz.f152.name, by decide, Tryz.func152.trans (congrArg some (by kernel_rfl))⟩
  f31 := Tryz.func187.trans (congrArg some (by kernel_rfl))
  f32 := Tryz.func188.trans (congrArg some (by kernel_rfl))
  f36 := ⟨Tryz.f186.name, by decide, Tryz.func186.trans (congrArg some (by kernel_rfl))⟩
  f37 := ⟨Tryz.f189.name, by decide, Tryz.func189.trans (congrArg some (by kernel_rfl))⟩
  f38 := ⟨Tryz.f190.name, by decide, Tryz.func190.trans (congrArg some (by kernel_rfl))⟩
  f39 := ⟨Tryz.f191.name, by decide, Tryz.func191.trans (congrArg some (by kernel_rfl))⟩
  f41 := ⟨Tryz.f225.name, by decide, Tryz.func225.trans (congrArg some (by kernel_rfl))⟩
  t0 := Tryz.underlying0
  a0 := Tryz.isAgg0
  z0 := Tryz.sizeOf0
  v0 := Tryz.zeroValue0
  t3 := Tryz.underlying3
  a3 := Tryz.isAgg3
  z3 := Tryz.sizeOf3
  v3 := Tryz.zeroValue3
  t4 := Tryz.underlying4
  a4 := Tryz.isAgg4
  z4 := Tryz.sizeOf4
  v4 := Tryz.zeroValue4
  t5 := Tryz.underlying5
  a5 := Tryz.isAgg5
  z5 := Tryz.sizeOf5
  v5 := Tryz.zeroValue5
  t9 := Tryz.underlying9
  a9 := Tryz.isAgg9
  z9 := Tryz.sizeOf9
  v9 := Tryz.zeroValue9
  t26 := Tryz.underlying87
  a26 := Tryz.isAgg87
  z26 := Tryz.sizeOf87
  v26 := Tryz.zeroValue87
  t27 := Tryz.underlying87
  a27 := Tryz.isAgg87
  z27 := Tryz.sizeOf87
  v27 := Tryz.zeroValue87
  t29 := Tryz.underlying9
  a29 := Tryz.isAgg9
  z29 := Tryz.sizeOf9
  v29 := Tryz.zeroValue9
  t32 := Tryz.underlying109
  a32 := Tryz.isAgg109
  z32 := Tryz.sizeOf109
  v32 := Tryz.zeroValue109
  t35 := Tryz.underlying233
  a35 := Tryz.isAgg233
  z35 := Tryz.sizeOf233
  v35 := Tryz.zeroValue233
  t36 := Tryz.underlying234
  a36 := Tryz.isAgg234
  z36 := Tryz.sizeOf234
  v36 := Tryz.zeroValue234
  t41 := Tryz.underlying238
  a41 := Tryz.isAgg238
  z41 := Tryz.sizeOf238
  v41 := Tryz.zeroValue238
  t44 := Tryz.underlying160
  a44 := Tryz.isAgg160
  z44 := Tryz.sizeOf160
  v44 := Tryz.zeroValue160
  t46 := Tryz.underlying137
  a46 := Tryz.isAgg137
  z46 := Tryz.sizeOf137
  v46 := Tryz.zeroValue137
  t53 := Tryz.underlying272
  a53 := Tryz.isAgg272
  z53 := Tryz.sizeOf272
  v53 := Tryz.zeroValue272
  t57 := Tryz.underlying275
  a57 := Tryz.isAgg275
  z57 := Tryz.sizeOf275
  v57 := Tryz.zeroValue275
  t63 := Tryz.underlying303
  a63 := Tryz.isAgg303
  z63 := Tryz.sizeOf303
  v63 := Tryz.zeroValue303
  t64 := Tryz.underlying304
  a64 := Tryz.isAgg304
  z64 := Tryz.sizeOf304
  v64 := Tryz.zeroValue304 }
theorem Tryz.sorts71 (m : Nat) : AnyZ.SortsIn Tryz.prog Tryz.sorted71_ren Fence.wide m :=
  ⟨fun blk off cap ss W hH hblk hsz => callsIn_wide.2 (AnyM.slices_Sort_string Tryz.sort97 blk off cap ss W hH hblk hsz),
   fun p cap W => callsIn_wide.2 (AnyM.slices_Sort_string_none Tryz.sort97 p cap W)⟩
theorem Tryz.maps_Keys_72 (mb : Option Nat) (W : World) : CallsIn Fence.wide 5 Tryz.prog 72 #[.map mb] W fun e w' => e = .returned (.func (.func 98) #[] #[.pointer (some ⟨W.heap.size, 0, none⟩)]) ∧ w' = W.alloc (.cells #[.map mb] 69) :=
  AnyZ.keys_in Tryz.keys72 Fence.wide 5 trivial rfl mb W
set_option maxHeartbeats 1000000 in
theorem Tryz.slices_Sorted_keys_71_72 {H : Type} (b nn : Nat) (D0 : DataW H) (R : Value → Option (DataW H × List MemPlace)) (w : World) (hown : w.ownsMap Tryz.prog 9 R b nn D0) (hmax : Maps.size D0 ≤ maxLen) (hbytes : Maps.size D0 * 16 ≤ 140737488355328) :
    CallsIn Fence.wide 5 Tryz.prog 71 #[.func (.func 98) #[] #[.pointer (some ⟨w.heap.size, 0, none⟩)]] (w.alloc (.cells #[.map (some b)] 69)) fun e w' => ∃ (v : Value) (ss : List (List UInt8)), e = .returned v ∧ ss.Perm (strKeys D0) ∧
      w'.ownsRow (w.alloc (.cells #[.map (some b)] 69)).heap.size 9 1 v ss.length ((ss.mergeSort (fun x y => decide (x ≤ y))).map encStr) ∧ (v = .slice none 0 0 ↔ ss = []) ∧ Below (w.alloc (.cells #[.map (some b)] 69)).heap.size (w.alloc (.cells #[.map (some b)] 69)) w' := by
  have hbl := hown.lt
  have hseq : SeqGives Fence.wide 2 Tryz.prog 98 #[.pointer (some ⟨w.heap.size, 0, none⟩)] encStr (fun ss => ss.Perm (strKeys D0)) (Maps.size D0) (w.alloc (.cells #[.map (some b)] 69)) :=
    AnyZ.keys_gives (ρ := Tryz.keys72_ren) { Tryz.keys72 with } Fence.wide _ trivial rfl (by omega) w.heap.size b nn D0 _ (by simp) (by simp) (by
      obtain ⟨es, clock, hb, Ft, hs, hD⟩ := hown
      exact ⟨es, clock, (Below.heap_alloc _ _ b hbl).trans hb, Ft, hs, hD⟩)
  exact AnyZ.sorted_in Tryz.sorted71 Fence.wide 5 trivial trivial trivial trivial rfl (by omega) (Tryz.sorts71 _) (enters_of Tryz.func97 (by kernel_rfl) rfl) 98 #[.pointer (some ⟨w.heap.size, 0, none⟩)] trivial (enters_of Tryz.func98 (by kernel_rfl) rfl) _ _ hmax hbytes _ hseq
set_option maxHeartbeats 1000000 in
theorem Tryz.slices_Sorted_keys_nil_71_72 (w : World) :
    CallsIn Fence.wide 5 Tryz.prog 71 #[.func (.func 98) #[] #[.pointer (some ⟨w.heap.size, 0, none⟩)]] (w.alloc (.cells #[.map none] 69)) fun e w' => ∃ (v : Value) (ss : List (List UInt8)), e = .returned v ∧ ss = [] ∧
      w'.ownsRow (w.alloc (.cells #[.map none] 69)).heap.size 9 1 v ss.length ((ss.mergeSort (fun x y => decide (x ≤ y))).map encStr) ∧ (v = .slice none 0 0 ↔ ss = []) ∧ Below (w.alloc (.cells #[.map none] 69)).heap.size (w.alloc (.cells #[.map none] 69)) w' := by
  have hseq : SeqGives Fence.wide 2 Tryz.prog 98 #[.pointer (some ⟨w.heap.size, 0, none⟩)] encStr (fun ss : List (List UInt8) => ss = []) 0 (w.alloc (.cells #[.map none] 69)) :=
    AnyZ.keys_gives_nil (ρ := Tryz.keys72_ren) { Tryz.keys72 with } Fence.wide _ trivial rfl w.heap.size _ (by simp) (by simp)
  exact AnyZ.sorted_in Tryz.sorted71 Fence.wide 5 trivial trivial trivial trivial rfl (by omega) (Tryz.sorts71 _) (enters_of Tryz.func97 (by kernel_rfl) rfl) 98 #[.pointer (some ⟨w.heap.size, 0, none⟩)] trivial (enters_of Tryz.func98 (by kernel_rfl) rfl) _ 0 (Nat.zero_le _) (by omega) _ hseq
end Go.Proofs
