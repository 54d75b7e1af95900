import Derived.Test.YtpcpfjpcfcbopaaGreatDoorRows
import Derived.Test.YtpcpfjpcfcbopaaGreatDoorNC
import Derived.Test.YtpcpfjpcfcbopaaGreatDoorVC2
import Derived.Shelf.Abstract
import Derived.Shelf.RegionOpen
import Derived.WalkKit
import Derived.OwnWalkIn
import Derived.TacticsInMore
import Derived.LoopNIn
import Derived.LoopIn
import Derived.Maps.AppendAt
import Derived.RangeFuncBox
import Derived.Sort.OwnSorted
set_option maxRecDepth 20000
namespace Go.Proofs.YtpcpfjpcfcbopaaGreatDoor
open Go Go.RowKit Go.Wk
open Go.Shelf
set_option maxHeartbeats 1000000 in
theorem mkeys_K (F:Fence) (n:Nat) (h7:F.fn 33) (hro:F.round=none) (mb:Nat) (w:World) :
 CallsIn F n Tryz.prog 33 #[.map (some mb)] w λe w'=>e=.returned (.func (.func 56) #[] #[.pointer (some ⟨w.heap.size,0,none⟩)])∧w'=w.alloc (.cells #[.map (some mb)] 55):=by
 refine callsIn_of_wp Tryz.func33 rfl h7 ?_ hro;simp only [Tryz.ntmps33,List.size_toArray,List.length_cons,List.length_nil,Nat.reduceAdd,Nat.reduceSub,Array.replicate_succ,Array.replicate_zero,List.push_toArray,List.append_toArray,List.nil_append,List.cons_append]
 gi_wp2
 go_ret
 exact ⟨rfl,rfl⟩
theorem mkeys_I {pb mb ck:Nat} {ms:MsK T_api_Pair} (N:Nat) (w0:World) (hp:Blk w0 pb 55 [.map (some mb)]) (hM:MpK kv71 w0 mb ms ck) (hb:∀ p∈ms,p.2.2<ck) (hnd:(ms.map (·.2.2)).Nodup) (hN:N=ms.length) (m:Nat) :
 SeqStopsK Fence.wide m Tryz.prog 56 #[.pointer (some ⟨pb,0,none⟩)] (λx:T_api_Pair=>#[kv71 x]) KeepsWalks (λxs=>xs.Perm (ms.map (·.1))) (λ_=>True) N w0:=by
 intro l J Jx W hW hJ hJx hY h0;have hlp:=hp.lt;have hlm:=hM.lt;have hpW:Blk W pb 55 [.map (some mb)]:=(hW.block pb hlp).trans hp;have hMW:MpK kv71 W mb ms ck:=(hW.block mb hlm).trans hM;refine callsIn_wide.2 ?_;refine Rn.enter Tryz.func56 (args:=[.func (.yield l) #[] #[],.pointer (some ⟨pb,0,none⟩)]) rfl rfl (Nat.le_of_ble_eq_true rfl) ?_;refine Rn.seq (Rn.reg (Rn.v rfl rfl rfl rfl (V.ldB Tryz.isAgg55 rfl hpW rfl) (Rn.rngK rfl rfl rfl Tryz.underlying55 rfl hMW ?_)));intro b1 w1 hb1 i1 x1;have hs1:=x1.size;have hJ1:J [] w1:=hJ [] W w1 none h0 (grown_ext x1) (λr e=>by cases e);refine Rn.regEnd (Rn.block ?_);refine Rn.loopI (G:=(List T_api_Pair×List Nat)) (λg=>[(5,.pointer (some ⟨b1,0,none⟩)),(0,.func (.yield l) #[] #[])]) (λg w'=>Itr w' b1 mb ck g.2∧MpK kv71 w' mb ms ck∧J g.1 w'∧(g.1++(leftMK ms g.2).map (·.1)).Perm (ms.map (·.1))∧w1.heap.size≤w'.heap.size) (λg=>(leftMK ms g.2).length) ([],[]) ?_ ?_ ?_
 ·exact Sub.cons rfl (Sub.cons rfl (Sub.nil _))
 ·refine ⟨i1,hMW.fr x1 (λh=>h),hJ1,?_,Nat.le_refl _⟩
  have:leftMK ms []=ms:=List.filter_eq_self.2 λ_ _=>rfl
  rw [this,List.nil_append]
 rintro ⟨pre,sn⟩ w2 ⟨i2,hM2,hJ2,hpm,hs2⟩ hn2;show Rn _ _ _ _ _ [(5,.pointer (some ⟨b1,0,none⟩)),(0,.func (.yield l) #[] #[])] _;dsimp only at i2 hJ2 hpm hn2;refine Rn.seq (Rn.reg ?_);refine Rn.nxtK rfl rfl rfl rfl hM2 i2 hb (λhle=>?_) (λp3 w3 hp3 i3 x3=>?_)
 ·refine Rn.v rfl rfl rfl rfl (V.ext rfl rfl) (Rn.regEnd (Rn.seq (Rn.condF rfl (Rn.exit rfl ?_))))
  rw [hle] at hpm;refine Rn.end0 Tryz.func56 rfl ?_;exact ⟨⟨_,rfl⟩,.inl ⟨pre,by simpa using hpm,hJ2⟩⟩
 ·have hpm3:p3∈ms:=(List.mem_filter.1 hp3).1
  have hM3:MpK kv71 w3 mb ms ck:=hM2.fr x3 (λh=>by
   have h1:w2.heap[mb]?=_:=hM2;have h2:w2.heap[b1]?=_:=i2
   rw [h] at h1;rw [h1] at h2;cases h2)
  have hJ3:J pre w3:=hJ pre w2 w3 (some b1) hJ2 (grown_fr x3) (λr e=>by cases e;exact ⟨by omega,_,i2,rfl⟩);have hlen:=(leftMK_perm ms sn p3 hnd hp3).length_eq;refine Rn.v rfl rfl rfl rfl (V.ext rfl rfl) (Rn.regEnd (Rn.seq (Rn.condT rfl (Rn.skip (Rn.block ?_)))));refine Rn.seq (Rn.reg (Rn.v rfl rfl rfl rfl (V.entryK rfl hM3 i3 hpm3 hnd) (Rn.v rfl rfl rfl rfl (V.ext rfl rfl) (Rn.als rfl rfl rfl Tryz.zeroValue71 rfl Tryz.sizeOf71 rfl rfl rfl rfl (by first|exact ones rfl|(simp [Value.oneCell'];done)) ?_))));intro b4 w4 hb4 m4 x4;have hs4:=x4.size;have hs3:=x3.size;have hJ4:J pre w4:=hJ pre w3 w4 none hJ3 (grown_ext x4) (λr e=>by cases e);have hM4:MpK kv71 w4 mb ms ck:=hM3.fr x4 (λh=>h);have i4:Itr w4 b1 mb ck (sn++[p3.2.2]):=i3.fr x4 (λh=>h)
  have hpl:pre.length<N:=by
   have h1:=hpm.length_eq;rw [List.length_append,List.length_map,List.length_map] at h1;have h2:0<(leftMK ms sn).length:=List.length_pos_of_mem hp3
   omega
  have hY4:=hY pre p3.1 w4 hJ4 hpl;refine Rn.regEnd (Rn.seq (Rn.reg (Rn.v rfl rfl rfl rfl (V.mv rfl) (Rn.v rfl rfl rfl rfl (V.ldA (vs:=[_,_]) Tryz.isAgg71 Tryz.sizeOf71 rfl (Blk.rd m4) rfl) ?_))));refine Rn.yield (vs:=[kv71 p3.1]) rfl rfl rfl rfl rfl hY4 ?_;rintro x w5 (⟨rfl,hJ5,hk5⟩|⟨rfl,hJx5⟩)
  ·refine ⟨_,rfl,?_⟩
   have hs5:=hk5.size;refine Rn.v rfl rfl rfl rfl (V.notB rfl) (Rn.regEnd (Rn.condF rfl (Rn.skip (Rn.inBlock ?_))));refine hn2 (pre++[p3.1],sn++[p3.2.2]) w5 _ (Sub.cons rfl (Sub.cons rfl (Sub.nil _))) ⟨i4.walks hk5,hM4.walks hk5,hJ5,?_,by omega⟩ ?_
   ·dsimp only
    rw [List.append_assoc];refine List.Perm.trans ?_ hpm;refine (List.perm_append_left_iff pre).2 ?_;exact ((leftMK_perm ms sn p3 hnd hp3).map (·.1)).symm
   ·dsimp only;rw [List.length_cons] at hlen;omega
  ·refine ⟨_,rfl,?_⟩
   refine Rn.v rfl rfl rfl rfl (V.notB rfl) (Rn.regEnd (Rn.condT rfl ?_));refine Rn.ret0 Tryz.func56 rfl ?_;exact ⟨⟨_,rfl⟩,.inr ⟨_,trivial,hJx5⟩⟩
end Go.Proofs.YtpcpfjpcfcbopaaGreatDoor
