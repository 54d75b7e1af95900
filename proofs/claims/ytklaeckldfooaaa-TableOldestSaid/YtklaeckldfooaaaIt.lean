/-
  The library's 'slices.Sorted(maps.Keys(m))' at this program: the shelf's contracts laid in plain words by a program.
-/
import Derived.Shelf.SlIter.Nil
import Derived.Shelf.SortM.Plain
import Derived.Shelf.SortM.SortNone
import Derived.Test.YtklaeckldfooaaaProg
namespace Go.Proofs
open Go.RowKit Go.Maps Go.Sort Go.Shelf
def Try.keys24_ren : Go.Shelf.Ren := ⟨fun | 7 => 24 | 10 => 28 | n => n, fun | 23 => 46 | 26 => 9 | 3 => 50 | 28 => 59 | 0 => 0 | 27 => 58 | 33 => 36 | 4 => 4 | n => n, fun | n => n⟩
theorem Try.keys24 : Go.Proofs.SlLaysZ.n7 Try.prog Try.keys24_ren := {
  mixed := by kernel_rfl
  f7 := ⟨Try.f24.name, by decide, Try.func24.trans (congrArg some (by kernel_rfl))⟩
  f10 := ⟨Try.f28.name, by decide, Try.func28.trans (congrArg some (by kernel_rfl))⟩
  t0 := Try.underlying0
  a0 := Try.isAgg0
  z0 := Try.sizeOf0
  v0 := Try.zeroValue0
  t4 := Try.underlying4
  a4 := Try.isAgg4
  z4 := Try.sizeOf4
  v4 := Try.zeroValue4
  t23 := Try.underlying46
  a23 := Try.isAgg46
  z23 := Try.sizeOf46
  v23 := Try.zeroValue46
  t26 := Try.underlying9
  a26 := Try.isAgg9
  z26 := Try.sizeOf9
  v26 := Try.zeroValue9
  t27 := Try.underlying58
  a27 := Try.isAgg58
  z27 := Try.sizeOf58
  v27 := Try.zeroValue58
  t28 := Try.underlying59
  a28 := Try.isAgg59
  z28 := Try.sizeOf59
  v28 := Try.zeroValue59
  t33 := Try.underlying36
  a33 := Try.isAgg36
  z33 := Try.sizeOf36
  v33 := Try.zeroValue36 }
def Try.sorted23_ren : Go.Shelf.Ren := ⟨fun | 6 => 23 | 8 => 26 | 9 => 27 | 11 => 29 | 13 => 31 | 12 => 30 | 23 => 41 | 24 => 42 | 14 => 32 | 15 => 33 | 16 => 34 | 17 => 35 | 18 => 36 | 19 => 37 | 20 => 38 | 21 => 39 | 22 => 40 | 25 => 43 | 26 => 44 | 27 => 45 | 28 => 46 | 29 => 47 | 30 => 48 | 31 => 49 | n => n, fun | 26 => 9 | 28 => 59 | 24 => 42 | 0 => 0 | 3 => 3 | 37 => 66 | 48 => 76 | 50 => 78 | 4 => 4 | 40 => 69 | 39 => 68 | 45 => 30 | 5 => 5 | 9 => 9 | 51 => 79 | 55 => 83 | 57 => 85 | 58 => 86 | 33 => 36 | n => n, fun | n => n⟩
theorem Try.sorted23 : Go.Proofs.SlLaysZ.n6 Try.prog Try.sorted23_ren := {
  mixed := by kernel_rfl
  f6 := ⟨Try.f23.name, by decide, Try.func23.trans (congrArg some (by kernel_rfl))⟩
  f8 := ⟨Try.f26.name, by decide, Try.func26.trans (congrArg some (by kernel_rfl))⟩
  f11 := ⟨Try.f29.name, by decide, Try.func29.trans (congrArg some (by kernel_rfl))⟩
  t0 := Try.underlying0
  a0 := Try.isAgg0
  z0 := Try.sizeOf0
  v0 := Try.zeroValue0
  t24 := Try.underlying42
  a24 := Try.isAgg42
  z24 := Try.sizeOf42
  v24 := Try.zeroValue42
  t26 := Try.underlying9
  a26 := Try.isAgg9
  z26 := Try.sizeOf9
  v26 := Try.zeroValue9
  t28 := Try.underlying59
  a28 := Try.isAgg59
  z28 := Try.sizeOf59
  v28 := Try.zeroValue59
  i26 := by kernel_rfl }
def Try.sort27_ren : Go.Shelf.Ren := ⟨fun | 6 => 27 | 8 => 31 | 9 => 30 | 19 => 41 | 20 => 42 | 21 => 32 | 22 => 33 | 23 => 34 | 24 => 35 | 25 => 36 | 26 => 37 | 27 => 38 | 28 => 39 | 29 => 40 | 36 => 43 | 31 => 44 | 32 => 45 | 37 => 46 | 38 => 47 | 39 => 48 | 41 => 49 | n => n, fun | 27 => 42 | 29 => 9 | 3 => 3 | 32 => 66 | 26 => 42 | 0 => 0 | 44 => 76 | 46 => 78 | 4 => 4 | 36 => 69 | 35 => 68 | 41 => 30 | 5 => 5 | 9 => 9 | 53 => 79 | 57 => 83 | 63 => 85 | 64 => 86 | n => n, fun | n => n⟩
theorem Try.sort27 : Go.Proofs.SlLaysM.n6 Try.prog Try.sort27_ren := {
  mixed := by kernel_rfl
  f6 := ⟨Try.f27.name, by decide, Try.func27.trans (congrArg some (by kernel_rfl))⟩
  f8 := Try.func31.trans (congrArg some (by kernel_rfl))
  f9 := ⟨Try.f30.name, by decide, Try.func30.trans (congrArg some (by kernel_rfl))⟩
  f19 := Try.func41.trans (congrArg some (by kernel_rfl))
  f20 := Try.func42.trans (congrArg some (by kernel_rfl))
  f21 := ⟨Try.f32.name, by decide, Try.func32.trans (congrArg some (by kernel_rfl))⟩
  f22 := ⟨Try.f33.name, by decide, Try.func33.trans (congrArg some (by kernel_rfl))⟩
  f23 := ⟨Try.f34.name, by decide, Try.func34.trans (congrArg some (by kernel_rfl))⟩
  f24 := ⟨Try.f35.name, by decide, Try.func35.trans (congrArg some (by kernel_rfl))⟩
  f25 := ⟨Try.f36.name, by decide, Try.func36.trans (congrArg some (by kernel_rfl))⟩
  f26 := ⟨Try.f37.name, by decide, Try.func37.trans (congrArg some (by kernel_rfl))⟩
  f27 := ⟨Try.f38.name, by decide, Try.func38.trans (congrArg some (by kernel_rfl))⟩
  f28 := ⟨Try.f39.name, by decide, Try.func39.trans (congrArg some (by kernel_rfl))⟩
  f29 := ⟨Try.f40.name, by decide, Try.func40.trans (congrArg some (by kernel_rfl))⟩
  f31 := Try.func44.trans (congrArg some (by kernel_rfl))
  f32 := Try.func45.trans (congrArg some (by kernel_rfl))
  f36 := ⟨Try.f43.name, by decide, Try.func43.trans (congrArg some (by kernel_rfl))⟩
  f37 := ⟨Try.f46.name, by decide, Try.func46.trans (congrArg some (by kernel_rfl))⟩
  f38 := ⟨Try.f47.name, by decide, Try.func47.trans (congrArg some (by kernel_rfl))⟩
  f39 := ⟨Try.f48.name, by decide, Try.func48.trans (congrArg some (by kernel_rfl))⟩
  f41 := ⟨Try.f49.name, by decide, Try.func49.trans (congrArg some (by kernel_rfl))⟩
  t0 := Try.underlying0
  a0 := Try.isAgg0
  z0 := Try.sizeOf0
  v0 := Try.zeroValue0
  t3 := Try.underlying3
  a3 := Try.isAgg3
  z3 := Try.sizeOf3
  v3 := Try.zeroValue3
  t4 := Try.underlying4
  a4 := Try.isAgg4
  z4 := Try.sizeOf4
  v4 := Try.zeroValue4
  t5 := Try.underlying5
  a5 := Try.isAgg5
  z5 := Try.sizeOf5
  v5 := Try.zeroValue5
  t9 := Try.underlying9
  a9 := Try.isAgg9
  z9 := Try.sizeOf9
  v9 := Try.zeroValue9
  t26 := Try.underlying42
  a26 := Try.isAgg42
  z26 := Try.sizeOf42
  v26 := Try.zeroValue42
  t27 := Try.underlying42
  a27 := Try.isAgg42
  z27 := Try.sizeOf42
  v27 := Try.zeroValue42
  t29 := Try.underlying9
  a29 := Try.isAgg9
  z29 := Try.sizeOf9
  v29 := Try.zeroValue9
  t32 := Try.underlying66
  a32 := Try.isAgg66
  z32 := Try.sizeOf66
  v32 := Try.zeroValue66
  t35 := Try.underlying68
  a35 := Try.isAgg68
  z35 := Try.sizeOf68
  v35 := Try.zeroValue68
  t36 := Try.underlying69
  a36 := Try.isAgg69
  z36 := Try.sizeOf69
  v36 := Try.zeroValue69
  t41 := Try.underlying30
  a41 := Try.isAgg30
  z41 := Try.sizeOf30
  v41 := Try.zeroValue30
  t44 := Try.underlying76
  a44 := Try.isAgg76
  z44 := Try.sizeOf76
  v44 := Try.zeroValue76
  t46 := Try.underlying78
  a46 := Try.isAgg78
  z46 := Try.sizeOf78
  v46 := Try.zeroValue78
  t53 := Try.underlying79
  a53 := Try.isAgg79
  z53 := Try.sizeOf79
  v53 := Try.zeroValue79
  t57 := Try.underlying83
  a57 := Try.isAgg83
  z57 := Try.sizeOf83
  v57 := Try.zeroValue83
  t63 := Try.underlying85
  a63 := Try.isAgg85
  z63 := Try.sizeOf85
  v63 := Try.zeroValue85
  t64 := Try.underlying86
  a64 := Try.isAgg86
  z64 := Try.sizeOf86
  v64 := Try.zeroValue86 }
theorem Try.sorts23 (m : Nat) : AnyZ.SortsIn Try.prog Try.sorted23_ren Fence.wide m :=
  ⟨fun blk off cap ss W hH hblk hsz => callsIn_wide.2 (AnyM.slices_Sort_string Try.sort27 blk off cap ss W hH hblk hsz),
   fun p cap W => callsIn_wide.2 (AnyM.slices_Sort_string_none Try.sort27 p cap W)⟩
theorem Try.maps_Keys_24 (mb : Option Nat) (W : World) : CallsIn Fence.wide 5 Try.prog 24 #[.map mb] W fun e w' => e = .returned (.func (.func 28) #[] #[.pointer (some ⟨W.heap.size, 0, none⟩)]) ∧ w' = W.alloc (.cells #[.map mb] 46) :=
  AnyZ.keys_in Try.keys24 Fence.wide 5 trivial rfl mb W
set_option maxHeartbeats 1000000 in
theorem Try.slices_Sorted_keys_23_24 {H : Type} (b nn : Nat) (D0 : DataW H) (R : Value → Option (DataW H × List MemPlace)) (w : World) (hown : w.ownsMap Try.prog 9 R b nn D0) (hmax : Maps.size D0 ≤ maxLen) (hbytes : Maps.size D0 * 16 ≤ 140737488355328) :
    CallsIn Fence.wide 5 Try.prog 23 #[.func (.func 28) #[] #[.pointer (some ⟨w.heap.size, 0, none⟩)]] (w.alloc (.cells #[.map (some b)] 46)) fun e w' => ∃ (v : Value) (ss : List (List UInt8)), e = .returned v ∧ ss.Perm (strKeys D0) ∧
      w'.ownsRow (w.alloc (.cells #[.map (some b)] 46)).heap.size 9 1 v ss.length ((ss.mergeSort (fun x y => decide (x ≤ y))).map encStr) ∧ (v = .slice none 0 0 ↔ ss = []) ∧ Below (w.alloc (.cells #[.map (some b)] 46)).heap.size (w.alloc (.cells #[.map (some b)] 46)) w' := by
  have hbl := hown.lt
  have hseq : SeqGives Fence.wide 2 Try.prog 28 #[.pointer (some ⟨w.heap.size, 0, none⟩)] encStr (fun ss => ss.Perm (strKeys D0)) (Maps.size D0) (w.alloc (.cells #[.map (some b)] 46)) :=
    AnyZ.keys_gives (ρ := Try.keys24_ren) { Try.keys24 with } Fence.wide _ trivial rfl (by omega) w.heap.size b nn D0 _ (by simp) (by simp) (by
      obtain ⟨es, clock, hb, Ft, hs, hD⟩ := hown
      exact ⟨es, clock, (Below.heap_alloc _ _ b hbl).trans hb, Ft, hs, hD⟩)
  exact AnyZ.sorted_in Try.sorted23 Fence.wide 5 trivial trivial trivial trivial rfl (by omega) (Try.sorts23 _) (enters_of Try.func27 (by kernel_rfl) rfl) 28 #[.pointer (some ⟨w.heap.size, 0, none⟩)] trivial (enters_of Try.func28 (by kernel_rfl) rfl) _ _ hmax hbytes _ hseq
set_option maxHeartbeats 1000000 in
theorem Try.slices_Sorted_keys_nil_23_24 (w : World) :
    CallsIn Fence.wide 5 Try.prog 23 #[.func (.func 28) #[] #[.pointer (some ⟨w.heap.size, 0, none⟩)]] (w.alloc (.cells #[.map none] 46)) fun e w' => ∃ (v : Value) (ss : List (List UInt8)), e = .returned v ∧ ss = [] ∧
      w'.ownsRow (w.alloc (.cells #[.map none] 46)).heap.size 9 1 v ss.length ((ss.mergeSort (fun x y => decide (x ≤ y))).map encStr) ∧ (v = .slice none 0 0 ↔ ss = []) ∧ Below (w.alloc (.cells #[.map none] 46)).heap.size (w.alloc (.cells #[.map none] 46)) w' := by
  have hseq : SeqGives Fence.wide 2 Try.prog 28 #[.pointer (some ⟨w.heap.size, 0, none⟩)] encStr (fun ss : List (List UInt8) => ss = []) 0 (w.alloc (.cells #[.map none] 46)) :=
    AnyZ.keys_gives_nil (ρ := Try.keys24_ren) { Try.keys24 with } Fence.wide _ trivial rfl w.heap.size _ (by simp) (by simp)
  exact AnyZ.sorted_in Try.sorted23 Fence.wide 5 trivial trivial trivial trivial rfl (by omega) (Try.sorts23 _) (enters_of Try.func27 (by kernel_rfl) rfl) 28 #[.pointer (some ⟨w.heap.size, 0, none⟩)] trivial (enters_of Try.func28 (by kernel_rfl) rfl) _ 0 (Nat.zero_le _) (by omega) _ hseq
end Go.Proofs
