/-
  The library's 'slices.Sorted(maps.Keys(m))' at this program: the shelf's contracts laid in plain words by a program.
-/
import Derived.Shelf.SlIter.Nil
import Derived.Shelf.SortM.Plain
import Derived.Shelf.SortM.SortNone
import Derived.Test.YtboelmiicbcjiaaProg
namespace Go.Proofs
open Go.RowKit Go.Maps Go.Sort Go.Shelf
def Try.keys27_ren : Go.Shelf.Ren := ⟨fun | 7 => 27 | 10 => 50 | n => n, fun | 23 => 55 | 26 => 9 | 3 => 61 | 28 => 68 | 0 => 0 | 27 => 67 | 33 => 60 | 4 => 4 | n => n, fun | n => n⟩
theorem Try.keys27 : Go.Proofs.SlLaysZ.n7 Try.prog Try.keys27_ren := {
  mixed := by kernel_rfl
  f7 := ⟨Try.f27.name, by decide, Try.func27.trans (congrArg some (by kernel_rfl))⟩
  f10 := ⟨Try.f50.name, by decide, Try.func50.trans (congrArg some (by kernel_rfl))⟩
  t0 := Try.underlying0
  a0 := Try.isAgg0
  z0 := Try.sizeOf0
  v0 := Try.zeroValue0
  t4 := Try.underlying4
  a4 := Try.isAgg4
  z4 := Try.sizeOf4
  v4 := Try.zeroValue4
  t23 := Try.underlying55
  a23 := Try.isAgg55
  z23 := Try.sizeOf55
  v23 := Try.zeroValue55
  t26 := Try.underlying9
  a26 := Try.isAgg9
  z26 := Try.sizeOf9
  v26 := Try.zeroValue9
  t27 := Try.underlying67
  a27 := Try.isAgg67
  z27 := Try.sizeOf67
  v27 := Try.zeroValue67
  t28 := Try.underlying68
  a28 := Try.isAgg68
  z28 := Try.sizeOf68
  v28 := Try.zeroValue68
  t33 := Try.underlying60
  a33 := Try.isAgg60
  z33 := Try.sizeOf60
  v33 := Try.zeroValue60 }
def Try.sorted26_ren : Go.Shelf.Ren := ⟨fun | 6 => 26 | 8 => 48 | 9 => 49 | 11 => 53 | 13 => 55 | 12 => 54 | 23 => 65 | 24 => 66 | 14 => 56 | 15 => 57 | 16 => 58 | 17 => 59 | 18 => 60 | 19 => 61 | 20 => 62 | 21 => 63 | 22 => 64 | 25 => 67 | 26 => 68 | 27 => 69 | 28 => 70 | 29 => 71 | 30 => 72 | 31 => 73 | n => n, fun | 26 => 9 | 28 => 68 | 24 => 32 | 0 => 0 | 3 => 3 | 37 => 89 | 48 => 100 | 50 => 102 | 4 => 4 | 40 => 92 | 39 => 91 | 45 => 97 | 5 => 5 | 9 => 9 | 51 => 103 | 55 => 107 | 57 => 109 | 58 => 110 | 33 => 60 | n => n, fun | n => n⟩
theorem Try.sorted26 : Go.Proofs.SlLaysZ.n6 Try.prog Try.sorted26_ren := {
  mixed := by kernel_rfl
  f6 := ⟨Try.f26.name, by decide, Try.func26.trans (congrArg some (by kernel_rfl))⟩
  f8 := ⟨Try.f48.name, by decide, Try.func48.trans (congrArg some (by kernel_rfl))⟩
  f11 := ⟨Try.f53.name, by decide, Try.func53.trans (congrArg some (by kernel_rfl))⟩
  t0 := Try.underlying0
  a0 := Try.isAgg0
  z0 := Try.sizeOf0
  v0 := Try.zeroValue0
  t24 := Try.underlying32
  a24 := Try.isAgg32
  z24 := Try.sizeOf32
  v24 := Try.zeroValue32
  t26 := Try.underlying9
  a26 := Try.isAgg9
  z26 := Try.sizeOf9
  v26 := Try.zeroValue9
  t28 := Try.underlying68
  a28 := Try.isAgg68
  z28 := Try.sizeOf68
  v28 := Try.zeroValue68
  i26 := by kernel_rfl }
def Try.sort49_ren : Go.Shelf.Ren := ⟨fun | 6 => 49 | 8 => 55 | 9 => 54 | 19 => 65 | 20 => 66 | 21 => 56 | 22 => 57 | 23 => 58 | 24 => 59 | 25 => 60 | 26 => 61 | 27 => 62 | 28 => 63 | 29 => 64 | 36 => 67 | 31 => 68 | 32 => 69 | 37 => 70 | 38 => 71 | 39 => 72 | 41 => 73 | n => n, fun | 27 => 32 | 29 => 9 | 3 => 3 | 32 => 89 | 26 => 32 | 0 => 0 | 44 => 100 | 46 => 102 | 4 => 4 | 36 => 92 | 35 => 91 | 41 => 97 | 5 => 5 | 9 => 9 | 53 => 103 | 57 => 107 | 63 => 109 | 64 => 110 | n => n, fun | n => n⟩
theorem Try.sort49 : Go.Proofs.SlLaysM.n6 Try.prog Try.sort49_ren := {
  mixed := by kernel_rfl
  f6 := ⟨Try.f49.name, by decide, Try.func49.trans (congrArg some (by kernel_rfl))⟩
  f8 := Try.func55.trans (congrArg some (by kernel_rfl))
  f9 := ⟨Try.f54.name, by decide, Try.func54.trans (congrArg some (by kernel_rfl))⟩
  f19 := Try.func65.trans (congrArg some (by kernel_rfl))
  f20 := Try.func66.trans (congrArg some (by kernel_rfl))
  f21 := ⟨Try.f56.name, by decide, Try.func56.trans (congrArg some (by kernel_rfl))⟩
  f22 := ⟨Try.f57.name, by decide, Try.func57.trans (congrArg some (by kernel_rfl))⟩
  f23 := ⟨Try.f58.name, by decide, Try.func58.trans (congrArg some (by kernel_rfl))⟩
  f24 := ⟨Try.f59.name, by decide, Try.func59.trans (congrArg some (by kernel_rfl))⟩
  f25 := ⟨Try.f60.name, by decide, Try.func60.trans (congrArg some (by kernel_rfl))⟩
  f26 := ⟨Try.f61.name, by decide, Try.func61.trans (congrArg some (by kernel_rfl))⟩
  f27 := ⟨Try.f62.name, by decide, Try.func62.trans (congrArg some (by kernel_rfl))⟩
  f28 := ⟨Try.f63.name, by decide, Try.func63.trans (congrArg some (by kernel_rfl))⟩
  f29 := ⟨Try.f64.name, by decide, Try.func64.trans (congrArg some (by kernel_rfl))⟩
  f31 := Try.func68.trans (congrArg some (by kernel_rfl))
  f32 := Try.func69.trans (congrArg some (by kernel_rfl))
  f36 := ⟨Try.f67.name, by decide, Try.func67.trans (congrArg some (by kernel_rfl))⟩
  f37 := ⟨Try.f70.name, by decide, Try.func70.trans (congrArg some (by kernel_rfl))⟩
  f38 := ⟨Try.f71.name, by decide, Try.func71.trans (congrArg some (by kernel_rfl))⟩
  f39 := ⟨Try.f72.name, by decide, Try.func72.trans (congrArg some (by kernel_rfl))⟩
  f41 := ⟨Try.f73.name, by decide, Try.func73.trans (congrArg some (by kernel_rfl))⟩
  t0 := Try.underlying0
  a0 := Try.isAgg0
  z0 := Try.sizeOf0
  v0 := Try.zeroValue0
  t3 := Try.underlying3
  a3 := Try.isAgg3
  z3 := Try.sizeOf3
  v3 := Try.zeroValue3
  t4 := Try.underlying4
  a4 := Try.isAgg4
  z4 := Try.sizeOf4
  v4 := Try.zeroValue4
  t5 := Try.underlying5
  a5 := Try.isAgg5
  z5 := Try.sizeOf5
  v5 := Try.zeroValue5
  t9 := Try.underlying9
  a9 := Try.isAgg9
  z9 := Try.sizeOf9
  v9 := Try.zeroValue9
  t26 := Try.underlying32
  a26 := Try.isAgg32
  z26 := Try.sizeOf32
  v26 := Try.zeroValue32
  t27 := Try.underlying32
  a27 := Try.isAgg32
  z27 := Try.sizeOf32
  v27 := Try.zeroValue32
  t29 := Try.underlying9
  a29 := Try.isAgg9
  z29 := Try.sizeOf9
  v29 := Try.zeroValue9
  t32 := Try.underlying89
  a32 := Try.isAgg89
  z32 := Try.sizeOf89
  v32 := Try.zeroValue89
  t35 := Try.underlying91
  a35 := Try.isAgg91
  z35 := Try.sizeOf91
  v35 := Try.zeroValue91
  t36 := Try.underlying92
  a36 := Try.isAgg92
  z36 := Try.sizeOf92
  v36 := Try.zeroValue92
  t41 := Try.underlying97
  a41 := Try.isAgg97
  z41 := Try.sizeOf97
  v41 := Try.zeroValue97
  t44 := Try.underlying100
  a44 := Try.isAgg100
  z44 := Try.sizeOf100
  v44 := Try.zeroValue100
  t46 := Try.underlying102
  a46 := Try.isAgg102
  z46 := Try.sizeOf102
  v46 := Try.zeroValue102
  t53 := Try.underlying103
  a53 := Try.isAgg103
  z53 := Try.sizeOf103
  v53 := Try.zeroValue103
  t57 := Try.underlying107
  a57 := Try.isAgg107
  z57 := Try.sizeOf107
  v57 := Try.zeroValue107
  t63 := Try.underlying109
  a63 := Try.isAgg109
  z63 := Try.sizeOf109
  v63 := Try.zeroValue109
  t64 := Try.underlying110
  a64 := Try.isAgg110
  z64 := Try.sizeOf110
  v64 := Try.zeroValue110 }
theorem Try.sorts26 (m : Nat) : AnyZ.SortsIn Try.prog Try.sorted26_ren Fence.wide m :=
  ⟨fun blk off cap ss W hH hblk hsz => callsIn_wide.2 (AnyM.slices_Sort_string Try.sort49 blk off cap ss W hH hblk hsz),
   fun p cap W => callsIn_wide.2 (AnyM.slices_Sort_string_none Try.sort49 p cap W)⟩
theorem Try.maps_Keys_27 (mb : Option Nat) (W : World) : CallsIn Fence.wide 5 Try.prog 27 #[.map mb] W fun e w' => e = .returned (.func (.func 50) #[] #[.pointer (some ⟨W.heap.size, 0, none⟩)]) ∧ w' = W.alloc (.cells #[.map mb] 55) :=
  AnyZ.keys_in Try.keys27 Fence.wide 5 trivial rfl mb W
set_option maxHeartbeats 1000000 in
theorem Try.slices_Sorted_keys_26_27 {H : Type} (b nn : Nat) (D0 : DataW H) (R : Value → Option (DataW H × List MemPlace)) (w : World) (hown : w.ownsMap Try.prog 9 R b nn D0) (hmax : Maps.size D0 ≤ maxLen) (hbytes : Maps.size D0 * 16 ≤ 140737488355328) :
    CallsIn Fence.wide 5 Try.prog 26 #[.func (.func 50) #[] #[.pointer (some ⟨w.heap.size, 0, none⟩)]] (w.alloc (.cells #[.map (some b)] 55)) fun e w' => ∃ (v : Value) (ss : List (List UInt8)), e = .returned v ∧ ss.Perm (strKeys D0) ∧
      w'.ownsRow (w.alloc (.cells #[.map (some b)] 55)).heap.size 9 1 v ss.length ((ss.mergeSort (fun x y => decide (x ≤ y))).map encStr) ∧ (v = .slice none 0 0 ↔ ss = []) ∧ Below (w.alloc (.cells #[.map (some b)] 55)).heap.size (w.alloc (.cells #[.map (some b)] 55)) w' := by
  have hbl := hown.lt
  have hseq : SeqGives Fence.wide 2 Try.prog 50 #[.pointer (some ⟨w.heap.size, 0, none⟩)] encStr (fun ss => ss.Perm (strKeys D0)) (Maps.size D0) (w.alloc (.cells #[.map (some b)] 55)) :=
    AnyZ.keys_gives (ρ := Try.keys27_ren) { Try.keys27 with } Fence.wide _ trivial rfl (by omega) w.heap.size b nn D0 _ (by simp) (by simp) (by
      obtain ⟨es, clock, hb, Ft, hs, hD⟩ := hown
      exact ⟨es, clock, (Below.heap_alloc _ _ b hbl).trans hb, Ft, hs, hD⟩)
  exact AnyZ.sorted_in Try.sorted26 Fence.wide 5 trivial trivial trivial trivial rfl (by omega) (Try.sorts26 _) (enters_of Try.func49 (by kernel_rfl) rfl) 50 #[.pointer (some ⟨w.heap.size, 0, none⟩)] trivial (enters_of Try.func50 (by kernel_rfl) rfl) _ _ hmax hbytes _ hseq
set_option maxHeartbeats 1000000 in
theorem Try.slices_Sorted_keys_nil_26_27 (w : World) :
    CallsIn Fence.wide 5 Try.prog 26 #[.func (.func 50) #[] #[.pointer (some ⟨w.heap.size, 0, none⟩)]] (w.alloc (.cells #[.map none] 55)) fun e w' => ∃ (v : Value) (ss : List (List UInt8)), e = .returned v ∧ ss = [] ∧
      w'.ownsRow (w.alloc (.cells #[.map none] 55)).heap.size 9 1 v ss.length ((ss.mergeSort (fun x y => decide (x ≤ y))).map encStr) ∧ (v = .slice none 0 0 ↔ ss = []) ∧ Below (w.alloc (.cells #[.map none] 55)).heap.size (w.alloc (.cells #[.map none] 55)) w' := by
  have hseq : SeqGives Fence.wide 2 Try.prog 50 #[.pointer (some ⟨w.heap.size, 0, none⟩)] encStr (fun ss : List (List UInt8) => ss = []) 0 (w.alloc (.cells #[.map none] 55)) :=
    AnyZ.keys_gives_nil (ρ := Try.keys27_ren) { Try.keys27 with } Fence.wide _ trivial rfl w.heap.size _ (by simp) (by simp)
  exact AnyZ.sorted_in Try.sorted26 Fence.wide 5 trivial trivial trivial trivial rfl (by omega) (Try.sorts26 _) (enters_of Try.func49 (by kernel_rfl) rfl) 50 #[.pointer (some ⟨w.heap.size, 0, none⟩)] trivial (enters_of Try.func50 (by kernel_rfl) rfl) _ 0 (Nat.zero_le _) (by omega) _ hseq
end Go.Proofs
