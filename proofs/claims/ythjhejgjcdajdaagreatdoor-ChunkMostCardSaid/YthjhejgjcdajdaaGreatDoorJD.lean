import Derived.Test.YthjhejgjcdajdaaGreatDoorVD2
import Derived.Test.YthjhejgjcdajdaaGreatDoorTie
import Derived.Test.YthjhejgjcdajdaaGreatDoorCards
import Derived.Test.YthjhejgjcdajdaaGreatDoorGD
import Derived.ProofKit
import Derived.OpenShut
import Derived.LaidMore
import Derived.Lay
import Derived.SevenTiedAt
import Derived.Stop.Joined
import Derived.Test.YthjhejgjcdajdaaGreatDoorSD4
import Derived.Test.YthjhejgjcdajdaaGreatDoorPD2
set_option linter.unusedVariables false
set_option linter.unusedSimpArgs false
namespace Go.Proofs.YthjhejgjcdajdaaGreatDoor
open Go Go.RowKit Go.Wk Go.WideShapes Go.ChangeShapes
def zA.ok (x:zA):Prop:=(x.Key.length≤maxLen)∧(x.Val.length≤maxLen)
theorem jc9:Tryz.prog.cellsOf 9=1:=by kernel_rfl
theorem zci:Tryz.prog.cellsOf 118=2:=by kernel_rfl
theorem zNw {H:Type} {enc:TypeId×Value→H} {w:World} {sp:Nat→Bool} {hd:Bool}:zLi enc Tryz.prog w sp hd 118 zA.rep zA.ok:=by
 intro n cs x h;obtain ⟨xs,n',_,_,hl,hxl,hf⟩:=DataW.trod_struct Tryz.underlying118 h;rw [zci] at hl;have h0:DataW.trod enc Tryz.prog w 0 sp hd n' 9 ((cs.drop 0).take (Tryz.prog.cellsOf 9))=xs[0]?:=hf 0 _ rfl;rw [jc9] at h0;obtain ⟨y0,hy0⟩:=zF7 0 hxl (show 0<2 by decide);rw [hy0] at h0;obtain ⟨z0,r0,q0⟩:=(zN4 Tryz.underlying9) _ _ _ h0;have h1:DataW.trod enc Tryz.prog w 0 sp hd n' 9 ((cs.drop 1).take (Tryz.prog.cellsOf 9))=xs[1]?:=hf 1 _ rfl;rw [jc9] at h1;obtain ⟨y1,hy1⟩:=zF7 1 hxl (show 1<2 by decide);rw [hy1] at h1;obtain ⟨z1,r1,q1⟩:=(zN4 Tryz.underlying9) _ _ _ h1;exact ⟨⟨z0,z1⟩,zIl 0 1 r0 (zQh 1 1 hl r1),⟨q0,q1⟩⟩
theorem zd2:Tryz.prog.cellsOf 35=1:=by kernel_rfl
def zA9.ok (x:zA9):Prop:=((Lit.int .i64 x.Offset).wf=true)∧(x.Counts.length≤maxLen∧∀ z∈x.Counts,True)
theorem jc3:Tryz.prog.cellsOf 3=1:=by kernel_rfl
theorem jc36:Tryz.prog.cellsOf 36=1:=by kernel_rfl
theorem jc38:Tryz.prog.cellsOf 38=2:=by kernel_rfl
theorem zKn {H:Type} {enc:TypeId×Value→H} {w:World} {sp:Nat→Bool} {hd:Bool}:zLi enc Tryz.prog w sp hd 38 zA9.rep zA9.ok:=by
 intro n cs x h;obtain ⟨xs,n',_,_,hl,hxl,hf⟩:=DataW.trod_struct Tryz.underlying38 h;rw [jc38] at hl;have h0:DataW.trod enc Tryz.prog w 0 sp hd n' 3 ((cs.drop 0).take (Tryz.prog.cellsOf 3))=xs[0]?:=hf 0 _ rfl;rw [jc3] at h0;obtain ⟨y0,hy0⟩:=zF7 0 hxl (show 0<2 by decide);rw [hy0] at h0;obtain ⟨z0,r0,q0⟩:=(zI6 Tryz.underlying3) _ _ _ h0;have h1:DataW.trod enc Tryz.prog w 0 sp hd n' 36 ((cs.drop 1).take (Tryz.prog.cellsOf 36))=xs[1]?:=hf 1 _ rfl;rw [jc36] at h1;obtain ⟨y1,hy1⟩:=zF7 1 hxl (show 1<2 by decide);rw [hy1] at h1;obtain ⟨z1,r1,q1⟩:=(zR9 Tryz.underlying36 zd2 (zMl Tryz.underlying35)) _ _ _ h1;exact ⟨⟨z0,z1⟩,zIl 0 1 r0 (zQh 1 1 hl r1),⟨q0,q1⟩⟩
def zA3.ok (x:zA3):Prop:=((Lit.int .i64 x.Scale).wf=true)∧(True)∧(zA9.ok x.Pos)∧(zA9.ok x.Neg)
theorem jc40:Tryz.prog.cellsOf 40=6:=by kernel_rfl
theorem zNx {H:Type} {enc:TypeId×Value→H} {w:World} {sp:Nat→Bool} {hd:Bool}:zLi enc Tryz.prog w sp hd 40 zA3.rep zA3.ok:=by
 intro n cs x h;obtain ⟨xs,n',_,_,hl,hxl,hf⟩:=DataW.trod_struct Tryz.underlying40 h;rw [jc40] at hl;have h0:DataW.trod enc Tryz.prog w 0 sp hd n' 3 ((cs.drop 0).take (Tryz.prog.cellsOf 3))=xs[0]?:=hf 0 _ rfl;rw [jc3] at h0;obtain ⟨y0,hy0⟩:=zF7 0 hxl (show 0<4 by decide);rw [hy0] at h0;obtain ⟨z0,r0,q0⟩:=(zI6 Tryz.underlying3) _ _ _ h0;have h1:DataW.trod enc Tryz.prog w 0 sp hd n' 35 ((cs.drop 1).take (Tryz.prog.cellsOf 35))=xs[1]?:=hf 1 _ rfl;rw [zd2] at h1;obtain ⟨y1,hy1⟩:=zF7 1 hxl (show 1<4 by decide);rw [hy1] at h1;obtain ⟨z1,r1,q1⟩:=(zMl Tryz.underlying35) _ _ _ h1;have h2:DataW.trod enc Tryz.prog w 0 sp hd n' 38 ((cs.drop 2).take (Tryz.prog.cellsOf 38))=xs[2]?:=hf 2 _ rfl;rw [jc38] at h2;obtain ⟨y2,hy2⟩:=zF7 2 hxl (show 2<4 by decide);rw [hy2] at h2;obtain ⟨z2,r2,q2⟩:=zKn _ _ _ h2;have h3:DataW.trod enc Tryz.prog w 0 sp hd n' 38 ((cs.drop 4).take (Tryz.prog.cellsOf 38))=xs[3]?:=hf 3 _ rfl;rw [jc38] at h3;obtain ⟨y3,hy3⟩:=zF7 3 hxl (show 3<4 by decide);rw [hy3] at h3;obtain ⟨z3,r3,q3⟩:=zKn _ _ _ h3;exact ⟨⟨z0,z1,z2,z3⟩,zIl 0 1 r0 (zIl 1 1 r1 (zIl 2 2 r2 (zQh 4 2 hl r3))),⟨q0,q1,q2,q3⟩⟩
def zA6.ok (x:zA6):Prop:=(x.Name.length≤maxLen)∧(x.Attrs.length≤maxLen∧∀ z∈x.Attrs,zA.ok z)∧((Lit.int .i64 x.Kind).wf=true)∧((Lit.int .i64 x.Temp).wf=true)∧(True)∧((Lit.int .i64 x.Start).wf=true)∧((Lit.int .i64 x.Time).wf=true)∧((Lit.int .i64 x.Int_).wf=true)∧(True)∧(True)∧(zA3.ok x.Hist)∧((Lit.int .i64 x.Flags).wf=true)
theorem jc34:Tryz.prog.cellsOf 34=1:=by kernel_rfl
theorem jc4:Tryz.prog.cellsOf 4=1:=by kernel_rfl
theorem jc42:Tryz.prog.cellsOf 42=17:=by kernel_rfl
theorem zN5 {H:Type} {enc:TypeId×Value→H} {w:World} {sp:Nat→Bool} {hd:Bool}:zLi enc Tryz.prog w sp hd 42 zA6.rep zA6.ok:=by
 intro n cs x h;obtain ⟨xs,n',_,_,hl,hxl,hf⟩:=DataW.trod_struct Tryz.underlying42 h;rw [jc42] at hl;have h0:DataW.trod enc Tryz.prog w 0 sp hd n' 9 ((cs.drop 0).take (Tryz.prog.cellsOf 9))=xs[0]?:=hf 0 _ rfl;rw [jc9] at h0;obtain ⟨y0,hy0⟩:=zF7 0 hxl (show 0<12 by decide);rw [hy0] at h0;obtain ⟨z0,r0,q0⟩:=(zN4 Tryz.underlying9) _ _ _ h0;have h1:DataW.trod enc Tryz.prog w 0 sp hd n' 34 ((cs.drop 1).take (Tryz.prog.cellsOf 34))=xs[1]?:=hf 1 _ rfl;rw [jc34] at h1;obtain ⟨y1,hy1⟩:=zF7 1 hxl (show 1<12 by decide);rw [hy1] at h1;obtain ⟨z1,r1,q1⟩:=(zR9 Tryz.underlying34 zci zNw) _ _ _ h1;have h2:DataW.trod enc Tryz.prog w 0 sp hd n' 3 ((cs.drop 2).take (Tryz.prog.cellsOf 3))=xs[2]?:=hf 2 _ rfl;rw [jc3] at h2;obtain ⟨y2,hy2⟩:=zF7 2 hxl (show 2<12 by decide);rw [hy2] at h2;obtain ⟨z2,r2,q2⟩:=(zI6 Tryz.underlying3) _ _ _ h2;have h3:DataW.trod enc Tryz.prog w 0 sp hd n' 3 ((cs.drop 3).take (Tryz.prog.cellsOf 3))=xs[3]?:=hf 3 _ rfl;rw [jc3] at h3;obtain ⟨y3,hy3⟩:=zF7 3 hxl (show 3<12 by decide);rw [hy3] at h3;obtain ⟨z3,r3,q3⟩:=(zI6 Tryz.underlying3) _ _ _ h3;have h4:DataW.trod enc Tryz.prog w 0 sp hd n' 4 ((cs.drop 4).take (Tryz.prog.cellsOf 4))=xs[4]?:=hf 4 _ rfl;rw [jc4] at h4;obtain ⟨y4,hy4⟩:=zF7 4 hxl (show 4<12 by decide);rw [hy4] at h4;obtain ⟨z4,r4,q4⟩:=(zTz Tryz.underlying4) _ _ _ h4;have h5:DataW.trod enc Tryz.prog w 0 sp hd n' 3 ((cs.drop 5).take (Tryz.prog.cellsOf 3))=xs[5]?:=hf 5 _ rfl;rw [jc3] at h5;obtain ⟨y5,hy5⟩:=zF7 5 hxl (show 5<12 by decide);rw [hy5] at h5;obtain ⟨z5,r5,q5⟩:=(zI6 Tryz.underlying3) _ _ _ h5;have h6:DataW.trod enc Tryz.prog w 0 sp hd n' 3 ((cs.drop 6).take (Tryz.prog.cellsOf 3))=xs[6]?:=hf 6 _ rfl;rw [jc3] at h6;obtain ⟨y6,hy6⟩:=zF7 6 hxl (show 6<12 by decide);rw [hy6] at h6;obtain ⟨z6,r6,q6⟩:=(zI6 Tryz.underlying3) _ _ _ h6;have h7:DataW.trod enc Tryz.prog w 0 sp hd n' 3 ((cs.drop 7).take (Tryz.prog.cellsOf 3))=xs[7]?:=hf 7 _ rfl;rw [jc3] at h7;obtain ⟨y7,hy7⟩:=zF7 7 hxl (show 7<12 by decide);rw [hy7] at h7;obtain ⟨z7,r7,q7⟩:=(zI6 Tryz.underlying3) _ _ _ h7;have h8:DataW.trod enc Tryz.prog w 0 sp hd n' 35 ((cs.drop 8).take (Tryz.prog.cellsOf 35))=xs[8]?:=hf 8 _ rfl;rw [zd2] at h8;obtain ⟨y8,hy8⟩:=zF7 8 hxl (show 8<12 by decide);rw [hy8] at h8;obtain ⟨z8,r8,q8⟩:=(zMl Tryz.underlying35) _ _ _ h8;have h9:DataW.trod enc Tryz.prog w 0 sp hd n' 35 ((cs.drop 9).take (Tryz.prog.cellsOf 35))=xs[9]?:=hf 9 _ rfl;rw [zd2] at h9;obtain ⟨y9,hy9⟩:=zF7 9 hxl (show 9<12 by decide);rw [hy9] at h9;obtain ⟨z9,r9,q9⟩:=(zMl Tryz.underlying35) _ _ _ h9;have h10:DataW.trod enc Tryz.prog w 0 sp hd n' 40 ((cs.drop 10).take (Tryz.prog.cellsOf 40))=xs[10]?:=hf 10 _ rfl;rw [jc40] at h10;obtain ⟨y10,hy10⟩:=zF7 10 hxl (show 10<12 by decide);rw [hy10] at h10;obtain ⟨z10,r10,q10⟩:=zNx _ _ _ h10;have h11:DataW.trod enc Tryz.prog w 0 sp hd n' 3 ((cs.drop 16).take (Tryz.prog.cellsOf 3))=xs[11]?:=hf 11 _ rfl;rw [jc3] at h11;obtain ⟨y11,hy11⟩:=zF7 11 hxl (show 11<12 by decide);rw [hy11] at h11;obtain ⟨z11,r11,q11⟩:=(zI6 Tryz.underlying3) _ _ _ h11;exact ⟨⟨z0,z1,z2,z3,z4,z5,z6,z7,z8,z9,z10,z11⟩,zIl 0 1 r0 (zIl 1 1 r1 (zIl 2 1 r2 (zIl 3 1 r3 (zIl 4 1 r4 (zIl 5 1 r5 (zIl 6 1 r6 (zIl 7 1 r7 (zIl 8 1 r8 (zIl 9 1 r9 (zIl 10 6 r10 (zQh 16 1 hl r11))))))))))),⟨q0,q1,q2,q3,q4,q5,q6,q7,q8,q9,q10,q11⟩⟩
namespace chunkMost
open Go.ChangeShapes Go.WideShapes Go.ChangeAt Go.RowKit Go.Wk Go
theorem own:ownKnob Tryz.prog.godebug=none:=by kernel_rfl
theorem laidOut:laidOutB Tryz.prog=true:=by kernel_rfl
theorem rd3:Tryz.prog.readableRec 3=true∧3<Tryz.prog.types.size:=⟨by kernel_rfl,of_decide_eq_true (by kernel_rfl)⟩
theorem rd42:Tryz.prog.readableRec 42=true∧42<Tryz.prog.types.size:=⟨by kernel_rfl,of_decide_eq_true (by kernel_rfl)⟩
theorem readable:∀ t∈Tryz.f6.params.toList,Tryz.prog.readableRec t=true∧t<Tryz.prog.types.size:=by
 rw [Tryz.params6];exact List.forall_mem_cons.2 ⟨rd42,List.forall_mem_cons.2 ⟨rd3,fun _ h=>by cases h⟩⟩
set_option maxRecDepth 100000 in
theorem contract (H:Type) (enc:TypeId×Value→H) (W:World) (base:Nat) (args:Array Value) (ds gs:List (DataW H)) (before:List MemPlace)
 (hval:∀ (j:Nat) t v,Tryz.f6.params[j]?=some t→args[j]?=some v→Value.okWide Tryz.prog W .any base t v)
 (hW:DataW.Whole enc Tryz.prog Tryz.f6.params.toList Rows.chunkMostSpec.vars false W args.toList ds gs before) (hL:laidMetH Tryz.prog laidAll W) :
 Calls Tryz.prog 6 args W fun e W'=>∃ v,e=.returned v∧Rows.chunkMostSpec.post enc Tryz.prog Tryz.f6 false true false false W args v W':=by
 have hW':=hW;obtain ⟨p,q,hA0,hV,rfl,hfz,hnd⟩:=hW;have hA:DataW.TrodAll enc Tryz.prog W 0 (fun _=>true) true Tryz.f6.params.toList args.toList ds p:=hA0;rw [Tryz.params6] at hA hval;obtain ⟨v0,vs0,d0,ds0,p0,q0,hargs,rfl,rfl,h0,r0⟩:=trodAll_cons hA;obtain ⟨v1,vs1,d1,ds1,p1,q1,rfl,rfl,rfl,h1,r1⟩:=trodAll_cons r0;obtain ⟨rfl,rfl,rfl⟩:=trodAll_nil r1
 obtain rfl:args=#[v0,v1]:=by cases args;simp_all
 obtain ⟨rfl,rfl⟩:=trodVars_none hV;obtain ⟨x0,cs0,rfl,f0,k0⟩:=zb8 Tryz.underlying42 (zN5) (hval 0 42 v0 rfl rfl) h0;obtain ⟨x1,rfl,k1⟩:=zb7 Tryz.underlying3 (hval 1 3 v1 rfl rfl) h1;obtain ⟨g1,g3⟩:=zU3 hL
 refine (zHv (Z0:=All) (zXv x0 x1 k0 k1) f0 g1 g3 :).mono fun e W' ⟨he,hx⟩=>⟨_,he,?_⟩
 exact zS6 laidOut readable hW' rfl (by kernel_rfl) Tryz.underlying4 rfl rfl rfl hx.fr
set_option maxRecDepth 100000 in
theorem lifted (os:Os) (started:os.Started) (H:Type) (enc:TypeId×Value→H) :
 ReturnsInHanded {} Tryz.checked os 6 .any (fun w args=>(Rows.chunkMostSpec.pre enc Tryz.prog Tryz.f6 Rows.chunkMostRow.domain false w args∧laidMetH Tryz.prog laidAll w)∧sizedMet enc Tryz.prog Tryz.f6 (OpenSpec.ofChange Rows.chunkMostSpec) false w args) (Rows.chunkMostSpec.post enc Tryz.prog Tryz.f6 false true false false):=by
 refine returnsInHanded_of_change_and (C:=Tryz.checked) (X:=fun w _=>laidMetH Tryz.prog laidAll w) (fun _ _ _ hh h=>h.of_heap hh) own started (by kernel_rfl) Tryz.func6
  (ChangeSpec.witness_shaped (enc:=enc) (C:=Tryz.checked) (os:=os) (X:=fun w _=>laidMetH Tryz.prog laidAll w) false (World.laidAll Tryz.prog os laidAll) #[.agg #[Str [],.slice none 0 0,.int .i64 0,.int .i64 0,.bool false,.int .i64 0,.int .i64 0,.int .i64 0,.int .u64 0,.int .u64 0,.int .i64 0,.int .u64 0,.int .i64 0,.slice none 0 0,.int .i64 0,.slice none 0 0,.int .i64 0],.int .i64 0] 8 (World.laidAll_os _ _ _)
   (World.shaped_of_ZipB (by kernel_rfl) (by kernel_rfl)) (by kernel_rfl) (by kernel_rfl) (by kernel_rfl)
   (by rw [MakeChecks.laidMetH_plain _ _ _ (by kernel_rfl)];exact laidMet_laidAll _ (by kernel_rfl) (by kernel_rfl))) ?_
 intro W base args ds gs before hval hW _ _ hL _;exact contract H enc W base args ds gs before hval hW hL
theorem holds:Rows.ChunkMostSaid:=
 OpenClaim.holds_of_wide 6 Tryz.f6 rfl rfl rfl rfl rfl rfl rfl ⟨rfl,rfl,rfl,rfl,rfl⟩ rfl rfl rfl rfl rfl (by kernel_rfl) Tryz.func6 (by kernel_rfl)
  (of_decide_eq_true (by kernel_rfl)) (by unfold Func.isWrapper;first | (rw [if_pos (by decide +kernel)];kernel_rfl) | (rw [if_neg (by decide +kernel)];exact ⟨rfl,rfl⟩))
  (fun os started H enc _=>lifted os started H enc)
set_option maxRecDepth 100000 in
theorem cardHolds:Rows.ChunkMostCardSaid:=
 Claim7.holds_tied_plain_at .later [] [.data, .data] true (true, "e9b3fb07afedc5740d296b4d5eb01358438e92b07831f125b1e73d76a72a09b2") false holds (fun _ h => by cases h) (by kernel_rfl) (fun _ h => by cases h) chunkMost_row_tie rfl ⟨rfl, rfl⟩ (by kernel_rfl) rfl
  (fun f fn hf hfn=>by
   obtain rfl : f = 6 := Option.some.inj ((show Tryz.prog.funcNamed "limnograph/limnographlaw13.ChunkMost" = some 6 by kernel_rfl).symm.trans hf) |>.symm
   obtain rfl:fn=Tryz.f6:=(Option.some.inj (Tryz.func6.symm.trans hfn)).symm
   exact ⟨by kernel_rfl,fun j t ht=>by
    rw [Tryz.params6] at ht
    have hm:t∈[42,3]:=by simpa using Array.mem_of_getElem? ht
    have hall:([42,3].all fun u=>!Tryz.prog.wantsStandIn u)=true:=by kernel_rfl
    exact (show Tryz.prog.wantsStandIn t=false by simpa using List.all_eq_true.1 hall t hm)⟩)
  (by kernel_rfl)
end chunkMost
end Go.Proofs.YthjhejgjcdajdaaGreatDoor
