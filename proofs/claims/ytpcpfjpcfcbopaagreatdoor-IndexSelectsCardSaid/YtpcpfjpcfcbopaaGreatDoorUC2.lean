import Derived.Test.YtpcpfjpcfcbopaaGreatDoorUC1
import Derived.Shelf.SortM.Plain
import Derived.Shelf.SortM.SortNone
set_option maxRecDepth 20000
namespace Go.Proofs.YtpcpfjpcfcbopaaGreatDoor
open Go Go.RowKit Go.Wk
open Go.Shelf Go.Sort Go.Maps
open Go.Proofs (encStr)
attribute [local go_sem] Oper.semAt_some
def Tryz.sortS_ren:Go.Shelf.Ren:=⟨fun | 6=>34 | 8=>58 | 9=>57 | 19=>97 | 20=>98 | 21=>88 | 22=>89 | 23=>90 | 24=>91 | 25=>92 | 26=>93 | 27=>94 | 28=>95 | 29=>96 | 36=>112 | 31=>113 | 32=>114 | 37=>115 | 38=>116 | 39=>117 | 41=>126 | n=>n,fun | 27=>22 | 29=>9 | 3=>3 | 32=>127 | 26=>22 | 0=>0 | 44=>159 | 46=>60 | 4=>4 | 36=>151 | 35=>150 | 41=>156 | 5=>5 | 9=>9 | 53=>174 | 57=>178 | 63=>186 | 64=>187 | n=>n,fun | n=>n⟩
theorem Tryz.sortS:Go.Proofs.SlLaysM.n6 Tryz.prog Tryz.sortS_ren:={
 mixed:=by kernel_rfl
 f6:=⟨Tryz.f34.name,by decide,Tryz.func34.trans (congrArg some (by kernel_rfl))⟩
 f8:=Tryz.func58.trans (congrArg some (by kernel_rfl))
 f9:=⟨Tryz.f57.name,by decide,Tryz.func57.trans (congrArg some (by kernel_rfl))⟩
 f19:=Tryz.func97.trans (congrArg some (by kernel_rfl))
 f20:=Tryz.func98.trans (congrArg some (by kernel_rfl))
 f21:=⟨Tryz.f88.name,by decide,Tryz.func88.trans (congrArg some (by kernel_rfl))⟩
 f22:=⟨Tryz.f89.name,by decide,Tryz.func89.trans (congrArg some (by kernel_rfl))⟩
 f23:=⟨Tryz.f90.name,by decide,Tryz.func90.trans (congrArg some (by kernel_rfl))⟩
 f24:=⟨Tryz.f91.name,by decide,Tryz.func91.trans (congrArg some (by kernel_rfl))⟩
 f25:=⟨Tryz.f92.name,by decide,Tryz.func92.trans (congrArg some (by kernel_rfl))⟩
 f26:=⟨Tryz.f93.name,by decide,Tryz.func93.trans (congrArg some (by kernel_rfl))⟩
 f27:=⟨Tryz.f94.name,by decide,Tryz.func94.trans (congrArg some (by kernel_rfl))⟩
 f28:=⟨Tryz.f95.name,by decide,Tryz.func95.trans (congrArg some (by kernel_rfl))⟩
 f29:=⟨Tryz.f96.name,by decide,Tryz.func96.trans (congrArg some (by kernel_rfl))⟩
 f31:=Tryz.func113.trans (congrArg some (by kernel_rfl))
 f32:=Tryz.func114.trans (congrArg some (by kernel_rfl))
 f36:=⟨Tryz.f112.name,by decide,Tryz.func112.trans (congrArg some (by kernel_rfl))⟩
 f37:=⟨Tryz.f115.name,by decide,Tryz.func115.trans (congrArg some (by kernel_rfl))⟩
 f38:=⟨Tryz.f116.name,by decide,Tryz.func116.trans (congrArg some (by kernel_rfl))⟩
 f39:=⟨Tryz.f117.name,by decide,Tryz.func117.trans (congrArg some (by kernel_rfl))⟩
 f41:=⟨Tryz.f126.name,by decide,Tryz.func126.trans (congrArg some (by kernel_rfl))⟩
 t0:=Tryz.underlying0
 a0:=Tryz.isAgg0
 z0:=Tryz.sizeOf0
 v0:=Tryz.zeroValue0
 t3:=Tryz.underlying3
 a3:=Tryz.isAgg3
 z3:=Tryz.sizeOf3
 v3:=Tryz.zeroValue3
 t4:=Tryz.underlying4
 a4:=Tryz.isAgg4
 z4:=Tryz.sizeOf4
 v4:=Tryz.zeroValue4
 t5:=Tryz.underlying5
 a5:=Tryz.isAgg5
 z5:=Tryz.sizeOf5
 v5:=Tryz.zeroValue5
 t9:=Tryz.underlying9
 a9:=Tryz.isAgg9
 z9:=Tryz.sizeOf9
 v9:=Tryz.zeroValue9
 t26:=Tryz.underlying22
 a26:=Tryz.isAgg22
 z26:=Tryz.sizeOf22
 v26:=Tryz.zeroValue22
 t27:=Tryz.underlying22
 a27:=Tryz.isAgg22
 z27:=Tryz.sizeOf22
 v27:=Tryz.zeroValue22
 t29:=Tryz.underlying9
 a29:=Tryz.isAgg9
 z29:=Tryz.sizeOf9
 v29:=Tryz.zeroValue9
 t32:=Tryz.underlying127
 a32:=Tryz.isAgg127
 z32:=Tryz.sizeOf127
 v32:=Tryz.zeroValue127
 t35:=Tryz.underlying150
 a35:=Tryz.isAgg150
 z35:=Tryz.sizeOf150
 v35:=Tryz.zeroValue150
 t36:=Tryz.underlying151
 a36:=Tryz.isAgg151
 z36:=Tryz.sizeOf151
 v36:=Tryz.zeroValue151
 t41:=Tryz.underlying156
 a41:=Tryz.isAgg156
 z41:=Tryz.sizeOf156
 v41:=Tryz.zeroValue156
 t44:=Tryz.underlying159
 a44:=Tryz.isAgg159
 z44:=Tryz.sizeOf159
 v44:=Tryz.zeroValue159
 t46:=Tryz.underlying60
 a46:=Tryz.isAgg60
 z46:=Tryz.sizeOf60
 v46:=Tryz.zeroValue60
 t53:=Tryz.underlying174
 a53:=Tryz.isAgg174
 z53:=Tryz.sizeOf174
 v53:=Tryz.zeroValue174
 t57:=Tryz.underlying178
 a57:=Tryz.isAgg178
 z57:=Tryz.sizeOf178
 v57:=Tryz.zeroValue178
 t63:=Tryz.underlying186
 a63:=Tryz.isAgg186
 z63:=Tryz.sizeOf186
 v63:=Tryz.zeroValue186
 t64:=Tryz.underlying187
 a64:=Tryz.isAgg187
 z64:=Tryz.sizeOf187
 v64:=Tryz.zeroValue187 }
theorem infoV:(Tryz.prog.info? 9).map (λi=>(i.zero,i.size,i.bytes))=some (some (Str []),1,16):=by kernel_rfl
def fil (key:List UInt8) (l:List T_api_Pair):List (List UInt8):=(l.filter λp=>decide (p.Key=key)).map (·.Val)
theorem fil_hit {key:List UInt8} (pre:List T_api_Pair) {x:T_api_Pair} (h:x.Key=key):fil key (pre++[x])=fil key pre++[x.Val]:=by simp [fil,h]
theorem fil_miss {key:List UInt8} (pre:List T_api_Pair) {x:T_api_Pair} (h:¬x.Key=key):fil key (pre++[x])=fil key pre:=by simp [fil,h]
theorem fil_le (key:List UInt8) (l:List T_api_Pair):(fil key l).length≤l.length:=by unfold fil;rw [List.length_map];exact List.length_filter_le _ _
set_option maxRecDepth 100000 in
set_option maxHeartbeats 4000000 in
theorem values_G {b mb ck:Nat} {c0:Value} {ms:MsK T_api_Pair} (key:List UInt8) (w:World) (hB:Blk w b 57 [c0,.map (some mb)]) (hM:MpK kv71 w mb ms ck) (hborn:∀ p∈ms,p.2.2<ck) (hnd:(ms.map (·.2.2)).Nodup) (hlen:ms.length≤1000000) :
 CallsIn Fence.wide 6 Tryz.prog 18 #[.pointer (some ⟨b,0,none⟩),Str key] w λe W'=>∃ (v:Value) (xs:List T_api_Pair),e=.returned v∧xs.Perm (ms.map (·.1))∧W'.ownsRow (w.heap.size+1) 9 1 v (fil key xs).length (((fil key xs).mergeSort (λx y=>decide (x≤y))).map encStr)∧Below w.heap.size w W':=by
 have hlb:=hB.lt;have hlm:=hM.lt;have hro:Fence.wide.round=none:=rfl;obtain ⟨i0,hi,hz0,hz1,hz2⟩:=info_parts infoV
 have hcm:w.cell? ⟨b,1,none⟩=some (.map (some mb)):=by unfold Blk at hB;simp [World.cell?,hB]
 refine callsIn_of_wp_marks Tryz.func18 rfl trivial ?_ hro;simp only [Tryz.ntmps18,List.size_toArray,List.length_cons,List.length_nil,Nat.reduceAdd,Nat.reduceSub,Array.replicate_succ,Array.replicate_zero,List.push_toArray,List.append_toArray,List.nil_append,List.cons_append]
 gi_wp2_with (refine ⟨trivial,?_⟩;gi_at_call 33;refine (mkeys_K Fence.wide _ trivial hro _ _).mono ?_;rintro e w' ⟨rfl,rfl⟩)
 have bK:=((Boxed.new w 9 (Str key)).alloc (.cells #[.slice none 0 0] 22)).alloc (.cells #[.map (some mb)] 55);have bO:=(Boxed.new (w.alloc (.cells #[Str key] 9)) 22 (.slice none 0 0)).alloc (.cells #[.map (some mb)] 55);have bM:=Boxed.new ((w.alloc (.cells #[Str key] 9)).alloc (.cells #[.slice none 0 0] 22)) 55 (.map (some mb));simp only [World.size_alloc] at bO bM;have hB0:Below w.heap.size w (((w.alloc (.cells #[Str key] 9)).alloc (.cells #[.slice none 0 0] 22)).alloc (.cells #[.map (some mb)] 55)):=(((Below.refl _ w).alloc (Nat.le_refl _) _).alloc (by simp) _).alloc (by simp;omega) _
 have hsz:(((w.alloc (.cells #[Str key] 9)).alloc (.cells #[.slice none 0 0] 22)).alloc (.cells #[.map (some mb)] 55)).heap.size=w.heap.size+3:=by simp
 obtain ⟨W0,hW0⟩:∃ W0,((w.alloc (.cells #[Str key] 9)).alloc (.cells #[.slice none 0 0] 22)).alloc (.cells #[.map (some mb)] 55)=W0:=⟨_,rfl⟩;rw [hW0] at bK bO bM hB0 hsz ⊢;clear hW0;refine wpIn_rangeFunc_ownH hro (by omega) (gf:=56) (lb:=#[.pointer (some ⟨w.heap.size+1+1,0,none⟩)]) rfl trivial (enters_of Tryz.func56 (by kernel_rfl) rfl)
  (mkeys_I ms.length W0 bM ((hB0.block mb hlm).trans hM) hborn hnd rfl _) walksK_t (λW l o o' _ h _ hw=>KeepsWalks.putObj o' h hw) (Below.refl _ _) (λ_=>rfl)
  (λpre W=>(∃ v,Boxed W (w.heap.size+1) 22 v∧W.ownsRow (w.heap.size+1) 9 1 v (fil key pre).length ((fil key pre).map encStr)∧(v=.slice none 0 0↔fil key pre=[]))∧Below (w.heap.size+1) W0 W)
  (λ_ _ _=>False)
  (OwnFrom.and (Own.from (holdsRow_own (w.heap.size+1) (w.heap.size+1) 22 9 1 (λpre=>(fil key pre).length) (λpre=>(fil key pre).map encStr) (λpre v=>v=.slice none 0 0↔fil key pre=[])) _) (ownFrom_below (by omega) (by omega)))
  (λ_ _ _ _ _ hs _ _=>hs)
  ⟨⟨_,bO,World.ownsRow_nil _ _ _ _,by simp [fil]⟩,Below.refl _ _⟩
  (λx a' W=>∃ Bx,w.heap.size+1<Bx∧Blk W Bx 71 [Str x.Key,Str x.Val]∧a'={ tmps:=#[.pointer (some ⟨b,0,none⟩),Str key,undef,.pointer (some ⟨w.heap.size,0,none⟩),.slice none 0 0,.pointer (some ⟨w.heap.size+1,0,none⟩),.pointer (some ⟨Bx,0,none⟩),.pointer (some ⟨b,0,none⟩),.pointer (some ⟨b,0,none⟩),.pointer (some ⟨b,1,none⟩),.map (some mb),.func (.func 56) #[] #[.pointer (some ⟨w.heap.size+1+1,0,none⟩)],kv71 x,undef,undef,undef,undef,undef,undef,undef,undef,undef,undef,undef,undef],defers:=[] })
  (λx a' _ X Y row hs hg hr=>by
   obtain ⟨Bx,h1,h2,h3⟩:=hs;refine ⟨Bx,h1,?_,h3⟩;have h2':X.heap[Bx]?=_:=h2
   exact (hg.block Bx (Array.getElem?_eq_some_iff.1 h2').1 (λe=>by obtain ⟨_,o,ho,hc⟩:=hr Bx e.symm;rw [h2'] at ho;cases ho;cases hc)).trans h2')
  ?assign ?body ?done ?stop
 case assign=>
  rintro l pre x W K ⟨⟨v,bS1,hrow,hnil⟩,hB1⟩ hK;have hsW:=hB1.size;have hkv:kv71 x=.agg #[Str x.Key,Str x.Val]:=rfl;simp only [hkv] at hK ⊢
  gi_wp2
  exact hK _ _ ((KeepsOthers.alloc _ _).from _) (KeepsWalks.alloc _ _) ⟨⟨v,bS1.alloc _,hrow.alloc _,hnil⟩,hB1.alloc (by omega) _⟩ ⟨W.heap.size,bS1.lt,Blk.new W 71 _,rfl⟩
 case body=>
  rintro l pre x a' W hl ⟨r,hr⟩ ⟨⟨v,hv,hrow,hnil⟩,hB1⟩ ⟨Bx,hBx,bX,rfl⟩ hlt;have hsW:=hB1.size;have bB1:Boxed W w.heap.size 9 (Str key):=(hB1.block _ (by omega)).trans bK;have hc:=hv.cell;have hcK:=bB1.cell
  have hcX:W.cell? ⟨Bx,0,none⟩=some (Str x.Key):=by unfold Blk at bX;simp [World.cell?,bX]
  have hcV:W.cell? ⟨Bx,1,none⟩=some (Str x.Val):=by unfold Blk at bX;simp [World.cell?,bX]
  have hpl:=fil_le key pre
  gi_wp2_with (gi_at_builtin;refine wpListIn_append_own _ rfl _ _ 22 rfl (w.heap.size+1) 9 i0 (Str []) 1 16 Tryz.underlying22 hi hz0 hz1 hz2 rfl (by decide) _ _ _ rfl (hrow.alloc _) ⟨W.heap.size,0,none⟩ 1 1 [Str x.Val] rfl rfl (cell_one_new _ _ _) (by simp [Value.oneCell']) (by unfold maxLen;omega) (by omega) (by have:=hB1.size;simp;omega) ?_;intro v' w1 hown' hgrow _;obtain ⟨g',cap',rfl⟩:=ownsRow_succ hown';obtain ⟨hv1,hv2,hr2,hk2,hb2⟩:=hv.appended (by decide) hrow (by omega) (by omega) hown' hgrow;have hc1:=hv1.cell;have hf1:=hv1.frozen)
  ·have hx:x.Key=key:=by simpa using ‹(x.Key==key)=true›
   exact ⟨hk2.from _,hk2.walks,⟨_,hv2,by rw [fil_hit pre hx];simpa using hr2,by rw [fil_hit pre hx];simp⟩,hB1.trans hb2⟩
  ·have hx:¬x.Key=key:=by simpa using ‹(x.Key==key)=false›
   exact ⟨KeepsFrom.refl _ _,KeepsWalks.refl _,⟨v,hv,by rw [fil_miss pre hx];exact hrow,by rw [fil_miss pre hx];exact hnil⟩,hB1⟩
 case done=>
  rintro D ys W hD hp ⟨⟨v,hv,hrow,hnil⟩,hB⟩ hK;have hsW:=hB.size;have hc:=hv.cell;have hfl:=fil_le key ys
  have hyl:ys.length≤1000000:=by rw [hp.length_eq,List.length_map];exact hlen
  have hDl:=(Array.getElem?_eq_some_iff.1 hK).1
  rcases hrow.2 with ⟨rfl,hz⟩|⟨gb,cap,cur,rfl,hbase,hgb,r1,r2,r3,r4⟩
  ·have hss:fil key ys=[]:=List.eq_nil_of_length_eq_zero hz
   have hs0:Calls Tryz.prog 34 #[.slice none 0 0] W λe w'=>e=.returned (.tuple #[])∧w'=W:=Go.Proofs.AnyM.slices_Sort_string_none Tryz.sortS none 0 W
   have hfin:∃ xs:List T_api_Pair,xs.Perm (ms.map (·.1))∧fil key xs=[]:=⟨ys,hp,hss⟩;clear hnil hz hrow hfl hyl hp hss
   gi_wp2_with (refine ⟨trivial,?_⟩;gi_at_call 34;refine (callsIn_wide.2 hs0).mono ?_;rintro e w' ⟨rfl,rfl⟩)
   refine ⟨by simp,.inl ⟨_,_,rfl,run_takeDeferred hK,?_⟩⟩;obtain ⟨xs,hx1,hx2⟩:=hfin;exact ⟨_,results_tmp rfl _ _ _,_,xs,rfl,hx1,by rw [hx2,List.mergeSort_nil];exact World.ownsRow_nil _ _ _ _,(hB0.trans (hB.mono (by omega))).trans (belowK_b (n₀:=w.heap.size) (w:=w) (Nat.le_refl _) _ D _ _ (by omega) hK rfl rfl)⟩
  ·have hH:Holds encStr W gb 0 (fil key ys).toArray:=holds_of_block hgb (by simpa using r4)
   have hgl:gb<W.heap.size:=(Array.getElem?_eq_some_iff.1 hgb).1
   have cS:Calls Tryz.prog 34 #[.slice (some ⟨gb,0,none⟩) (fil key ys).length cap] W λe w'=>e=.returned (.tuple #[])∧∃ n os,w'=grow (putRow encStr (Sort.ahead W n) gb 0 ((fil key ys).mergeSort λx y=>decide (x≤y)).toArray) os:=Go.Proofs.AnyM.slices_Sort_string Tryz.sortS gb 0 cap (fil key ys) W hH hgl (by omega)
   have hne:some (w.heap.size+1)≠some gb:=hv.not_row (by decide) hrow
   have hDg:some D≠some gb:=λe=>by cases e;rw [hgb] at hK;cases hK
   have hfin:∃ xs:List T_api_Pair,xs.Perm (ms.map (·.1))∧xs=ys:=⟨ys,hp,rfl⟩;clear hnil hrow hp
   gi_wp2_with (refine ⟨trivial,?_⟩;gi_at_call 34;refine (callsIn_wide.2 cS).mono ?_;rintro e w' ⟨rfl,nn,os,rfl⟩;have hv2:=hv.kept (grownBy_sorted (n:=nn) (os:=os) ((fil key ys).mergeSort λx y=>decide (x≤y)).toArray) hne;have hc2:=hv2.cell)
   have hg:=grownBy_sorted (w:=W) (g:=gb) (n:=nn) (os:=os) ((fil key ys).mergeSort λx y=>decide (x≤y)).toArray;have hK2:=(hg.block D hDl hDg).trans hK;refine ⟨by simp,.inl ⟨_,_,rfl,run_takeDeferred hK2,?_⟩⟩;obtain ⟨xs,hx1,rfl⟩:=hfin
   exact ⟨_,results_tmp rfl _ _ _,_,xs,rfl,hx1,ownsRow_putObj (ownsRow_sorted (by simp) hbase hgb r1 r2 r3) _ hK2 rfl,
    ((hB0.trans (hB.mono (by omega))).grown hg (Nat.le_trans hB0.size hsW) (λj hj=>by cases hj;omega)).trans (belowK_b (n₀:=w.heap.size) (w:=w) (Nat.le_refl _) _ D _ _ (by omega) hK2 rfl rfl)⟩
 case stop=>
  rintro D c pre W _ _ h _;exact h.elim
end Go.Proofs.YtpcpfjpcfcbopaaGreatDoor
