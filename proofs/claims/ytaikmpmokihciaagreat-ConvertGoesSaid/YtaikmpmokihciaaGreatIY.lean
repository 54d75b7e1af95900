import Derived.Shelf.SlIter.Nil
import Derived.Shelf.SortM.Plain
import Derived.Shelf.SortM.SortNone
import Derived.Test.YtaikmpmokihciaaGreatProg
set_option maxRecDepth 100000
set_option linter.unusedVariables false
set_option linter.unusedSimpArgs false
namespace Go.Proofs
open Go.RowKit Go.Maps Go.Sort Go.Shelf
def Tryz.keys103_ren:Go.Shelf.Ren:=⟨fun | 7=>103 | 10=>163 | n=>n,fun | 23=>130 | 26=>9 | 3=>136 | 28=>161 | 0=>0 | 27=>160 | 33=>170 | 4=>4 | n=>n,fun | n=>n⟩
theorem Tryz.keys103:Go.Proofs.SlLaysZ.n7 Tryz.prog Tryz.keys103_ren:={
 mixed:=by kernel_rfl
 f7:=⟨Tryz.f103.name,by decide,Tryz.func103.trans (congrArg some (by kernel_rfl))⟩
 f10:=⟨Tryz.f163.name,by decide,Tryz.func163.trans (congrArg some (by kernel_rfl))⟩
 t0:=Tryz.underlying0
 a0:=Tryz.isAgg0
 z0:=Tryz.sizeOf0
 v0:=Tryz.zeroValue0
 t4:=Tryz.underlying4
 a4:=Tryz.isAgg4
 z4:=Tryz.sizeOf4
 v4:=Tryz.zeroValue4
 t23:=Tryz.underlying130
 a23:=Tryz.isAgg130
 z23:=Tryz.sizeOf130
 v23:=Tryz.zeroValue130
 t26:=Tryz.underlying9
 a26:=Tryz.isAgg9
 z26:=Tryz.sizeOf9
 v26:=Tryz.zeroValue9
 t27:=Tryz.underlying160
 a27:=Tryz.isAgg160
 z27:=Tryz.sizeOf160
 v27:=Tryz.zeroValue160
 t28:=Tryz.underlying161
 a28:=Tryz.isAgg161
 z28:=Tryz.sizeOf161
 v28:=Tryz.zeroValue161
 t33:=Tryz.underlying170
 a33:=Tryz.isAgg170
 z33:=Tryz.sizeOf170
 v33:=Tryz.zeroValue170 }
def Tryz.sorted102_ren:Go.Shelf.Ren:=⟨fun | 6=>102 | 8=>161 | 9=>162 | 11=>206 | 13=>208 | 12=>207 | 23=>232 | 24=>160 | 14=>223 | 15=>224 | 16=>225 | 17=>226 | 18=>227 | 19=>228 | 20=>229 | 21=>230 | 22=>231 | 25=>240 | 26=>241 | 27=>242 | 28=>243 | 29=>244 | 30=>195 | 31=>252 | n=>n,fun | 26=>9 | 28=>161 | 24=>102 | 0=>0 | 3=>3 | 37=>134 | 48=>271 | 50=>31 | 4=>4 | 40=>263 | 39=>262 | 45=>268 | 5=>5 | 9=>9 | 51=>277 | 55=>280 | 57=>284 | 58=>275 | 33=>170 | n=>n,fun | n=>n⟩
theorem Tryz.sorted102:Go.Proofs.SlLaysZ.n6 Tryz.prog Tryz.sorted102_ren:={
 mixed:=by kernel_rfl
 f6:=⟨Tryz.f102.name,by decide,Tryz.func102.trans (congrArg some (by kernel_rfl))⟩
 f8:=⟨Tryz.f161.name,by decide,Tryz.func161.trans (congrArg some (by kernel_rfl))⟩
 f11:=⟨Tryz.f206.name,by decide,Tryz.func206.trans (congrArg some (by kernel_rfl))⟩
 t0:=Tryz.underlying0
 a0:=Tryz.isAgg0
 z0:=Tryz.sizeOf0
 v0:=Tryz.zeroValue0
 t24:=Tryz.underlying102
 a24:=Tryz.isAgg102
 z24:=Tryz.sizeOf102
 v24:=Tryz.zeroValue102
 t26:=Tryz.underlying9
 a26:=Tryz.isAgg9
 z26:=Tryz.sizeOf9
 v26:=Tryz.zeroValue9
 t28:=Tryz.underlying161
 a28:=Tryz.isAgg161
 z28:=Tryz.sizeOf161
 v28:=Tryz.zeroValue161
 i26:=by kernel_rfl }
def Tryz.sort162_ren:Go.Shelf.Ren:=⟨fun | 6=>162 | 8=>208 | 9=>207 | 19=>232 | 20=>160 | 21=>223 | 22=>224 | 23=>225 | 24=>226 | 25=>227 | 26=>228 | 27=>229 | 28=>230 | 29=>231 | 36=>240 | 31=>241 | 32=>242 | 37=>243 | 38=>244 | 39=>195 | 41=>252 | n=>n,fun | 27=>102 | 29=>9 | 3=>3 | 32=>134 | 26=>102 | 0=>0 | 44=>271 | 46=>31 | 4=>4 | 36=>263 | 35=>262 | 41=>268 | 5=>5 | 9=>9 | 53=>277 | 57=>280 | 63=>284 | 64=>275 | n=>n,fun | n=>n⟩
theorem Tryz.sort162:Go.Proofs.SlLaysM.n6 Tryz.prog Tryz.sort162_ren:={
 mixed:=by kernel_rfl
 f6:=⟨Tryz.f162.name,by decide,Tryz.func162.trans (congrArg some (by kernel_rfl))⟩
 f8:=Tryz.func208.trans (congrArg some (by kernel_rfl))
 f9:=⟨Tryz.f207.name,by decide,Tryz.func207.trans (congrArg some (by kernel_rfl))⟩
 f19:=Tryz.func232.trans (congrArg some (by kernel_rfl))
 f20:=Tryz.func160.trans (congrArg some (by kernel_rfl))
 f21:=⟨Tryz.f223.name,by decide,Tryz.func223.trans (congrArg some (by kernel_rfl))⟩
 f22:=⟨Tryz.f224.name,by decide,Tryz.func224.trans (congrArg some (by kernel_rfl))⟩
 f23:=⟨Tryz.f225.name,by decide,Tryz.func225.trans (congrArg some (by kernel_rfl))⟩
 f24:=⟨Tryz.f226.name,by decide,Tryz.func226.trans (congrArg some (by kernel_rfl))⟩
 f25:=⟨Tryz.f227.name,by decide,Tryz.func227.trans (congrArg some (by kernel_rfl))⟩
 f26:=⟨Tryz.f228.name,by decide,Tryz.func228.trans (congrArg some (by kernel_rfl))⟩
 f27:=⟨Tryz.f229.name,by decide,Tryz.func229.trans (congrArg some (by kernel_rfl))⟩
 f28:=⟨Tryz.f230.name,by decide,Tryz.func230.trans (congrArg some (by kernel_rfl))⟩
 f29:=⟨Tryz.f231.name,by decide,Tryz.func231.trans (congrArg some (by kernel_rfl))⟩
 f31:=Tryz.func241.trans (congrArg some (by kernel_rfl))
 f32:=Tryz.func242.trans (congrArg some (by kernel_rfl))
 f36:=⟨Tryz.f240.name,by decide,Tryz.func240.trans (congrArg some (by kernel_rfl))⟩
 f37:=⟨Tryz.f243.name,by decide,Tryz.func243.trans (congrArg some (by kernel_rfl))⟩
 f38:=⟨Tryz.f244.name,by decide,Tryz.func244.trans (congrArg some (by kernel_rfl))⟩
 f39:=⟨Tryz.f195.name,by decide,Tryz.func195.trans (congrArg some (by kernel_rfl))⟩
 f41:=⟨Tryz.f252.name,by decide,Tryz.func252.trans (congrArg some (by kernel_rfl))⟩
 t0:=Tryz.underlying0
 a0:=Tryz.isAgg0
 z0:=Tryz.sizeOf0
 v0:=Tryz.zeroValue0
 t3:=Tryz.underlying3
 a3:=Tryz.isAgg3
 z3:=Tryz.sizeOf3
 v3:=Tryz.zeroValue3
 t4:=Tryz.underlying4
 a4:=Tryz.isAgg4
 z4:=Tryz.sizeOf4
 v4:=Tryz.zeroValue4
 t5:=Tryz.underlying5
 a5:=Tryz.isAgg5
 z5:=Tryz.sizeOf5
 v5:=Tryz.zeroValue5
 t9:=Tryz.underlying9
 a9:=Tryz.isAgg9
 z9:=Tryz.sizeOf9
 v9:=Tryz.zeroValue9
 t26:=Tryz.underlying102
 a26:=Tryz.isAgg102
 z26:=Tryz.sizeOf102
 v26:=Tryz.zeroValue102
 t27:=Tryz.underlying102
 a27:=Tryz.isAgg102
 z27:=Tryz.sizeOf102
 v27:=Tryz.zeroValue102
 t29:=Tryz.underlying9
 a29:=Tryz.isAgg9
 z29:=Tryz.sizeOf9
 v29:=Tryz.zeroValue9
 t32:=Tryz.underlying134
 a32:=Tryz.isAgg134
 z32:=Tryz.sizeOf134
 v32:=Tryz.zeroValue134
 t35:=Tryz.underlying262
 a35:=Tryz.isAgg262
 z35:=Tryz.sizeOf262
 v35:=Tryz.zeroValue262
 t36:=Tryz.underlying263
 a36:=Tryz.isAgg263
 z36:=Tryz.sizeOf263
 v36:=Tryz.zeroValue263
 t41:=Tryz.underlying268
 a41:=Tryz.isAgg268
 z41:=Tryz.sizeOf268
 v41:=Tryz.zeroValue268
 t44:=Tryz.underlying271
 a44:=Tryz.isAgg271
 z44:=Tryz.sizeOf271
 v44:=Tryz.zeroValue271
 t46:=Tryz.underlying31
 a46:=Tryz.isAgg31
 z46:=Tryz.sizeOf31
 v46:=Tryz.zeroValue31
 t53:=Tryz.underlying277
 a53:=Tryz.isAgg277
 z53:=Tryz.sizeOf277
 v53:=Tryz.zeroValue277
 t57:=Tryz.underlying280
 a57:=Tryz.isAgg280
 z57:=Tryz.sizeOf280
 v57:=Tryz.zeroValue280
 t63:=Tryz.underlying284
 a63:=Tryz.isAgg284
 z63:=Tryz.sizeOf284
 v63:=Tryz.zeroValue284
 t64:=Tryz.underlying275
 a64:=Tryz.isAgg275
 z64:=Tryz.sizeOf275
 v64:=Tryz.zeroValue275 }
theorem Tryz.sorts102 (m:Nat):AnyZ.SortsIn Tryz.prog Tryz.sorted102_ren Fence.wide m:=
 ⟨λblk off cap ss W hH hblk hsz=>callsIn_wide.2 (AnyM.slices_Sort_string Tryz.sort162 blk off cap ss W hH hblk hsz),
  λp cap W=>callsIn_wide.2 (AnyM.slices_Sort_string_none Tryz.sort162 p cap W)⟩
theorem Tryz.maps_Keys_103 (mb:Option Nat) (W:World):CallsIn Fence.wide 5 Tryz.prog 103 #[.map mb] W λe w'=>e=.returned (.func (.func 163) #[] #[.pointer (some ⟨W.heap.size,0,none⟩)])∧w'=W.alloc (.cells #[.map mb] 130):=
 AnyZ.keys_in Tryz.keys103 Fence.wide 5 trivial rfl mb W
set_option maxHeartbeats 1000000 in
theorem Tryz.slices_Sorted_keys_102_103 {H:Type} (b nn:Nat) (D0:DataW H) (R:Value→Option (DataW H×List MemPlace)) (w:World) (hown:w.ownsMap Tryz.prog 9 R b nn D0) (hmax:Maps.size D0≤maxLen) (hbytes:Maps.size D0*16≤140737488355328) :
 CallsIn Fence.wide 5 Tryz.prog 102 #[.func (.func 163) #[] #[.pointer (some ⟨w.heap.size,0,none⟩)]] (w.alloc (.cells #[.map (some b)] 130)) λe w'=>∃ (v:Value) (ss:List (List UInt8)),e=.returned v∧ss.Perm (strKeys D0) ∧
  w'.ownsRow (w.alloc (.cells #[.map (some b)] 130)).heap.size 9 1 v ss.length ((ss.mergeSort (λx y=>decide (x≤y))).map encStr)∧(v=.slice none 0 0↔ss=[])∧Below (w.alloc (.cells #[.map (some b)] 130)).heap.size (w.alloc (.cells #[.map (some b)] 130)) w':=by
 have hbl:=hown.lt
 have hseq:SeqGives Fence.wide 2 Tryz.prog 163 #[.pointer (some ⟨w.heap.size,0,none⟩)] encStr (λss=>ss.Perm (strKeys D0)) (Maps.size D0) (w.alloc (.cells #[.map (some b)] 130)):=
  AnyZ.keys_gives (ρ:=Tryz.keys103_ren) { Tryz.keys103 with } Fence.wide _ trivial rfl (by omega) w.heap.size b nn D0 _ (by simp) (by simp) (by
   obtain ⟨es,clock,hb,Ft,hs,hD⟩:=hown
   exact ⟨es,clock,(Below.heap_alloc _ _ b hbl).trans hb,Ft,hs,hD⟩)
 exact AnyZ.sorted_in Tryz.sorted102 Fence.wide 5 trivial trivial trivial trivial rfl (by omega) (Tryz.sorts102 _) (enters_of Tryz.func162 (by kernel_rfl) rfl) 163 #[.pointer (some ⟨w.heap.size,0,none⟩)] trivial (enters_of Tryz.func163 (by kernel_rfl) rfl) _ _ hmax hbytes _ hseq
end Go.Proofs
