import Derived.Test.YthjhejgjcdajdaaGreatDoorVE2
import Derived.Test.YthjhejgjcdajdaaGreatDoorTie
import Derived.Test.YthjhejgjcdajdaaGreatDoorCards
import Derived.Test.YthjhejgjcdajdaaGreatDoorGE
import Derived.ProofKit
import Derived.OpenShut
import Derived.LaidMore
import Derived.Lay
import Derived.SevenTiedAt
import Derived.Stop.Joined
import Derived.Test.YthjhejgjcdajdaaGreatDoorSE4
import Derived.Test.YthjhejgjcdajdaaGreatDoorPE2
set_option linter.unusedVariables false
set_option linter.unusedSimpArgs false
namespace Go.Proofs.YthjhejgjcdajdaaGreatDoor
open Go Go.RowKit Go.Wk Go.WideShapes Go.ChangeShapes
theorem jc44:Tryz.prog.cellsOf 44=18:=by kernel_rfl
def zA0.ok (x:zA0):Prop:=(x.Key.length≤maxLen)∧(x.Val.length≤maxLen)
theorem jc9:Tryz.prog.cellsOf 9=1:=by kernel_rfl
theorem zgq:Tryz.prog.cellsOf 118=2:=by kernel_rfl
theorem zR0 {H:Type} {enc:TypeId×Value→H} {w:World} {sp:Nat→Bool} {hd:Bool}:zO3 enc Tryz.prog w sp hd 118 zA0.rep zA0.ok:=by
 intro n cs x h;obtain ⟨xs,n',_,_,hl,hxl,hf⟩:=DataW.trod_struct Tryz.underlying118 h;rw [zgq] at hl;have h0:DataW.trod enc Tryz.prog w 0 sp hd n' 9 ((cs.drop 0).take (Tryz.prog.cellsOf 9))=xs[0]?:=hf 0 _ rfl;rw [jc9] at h0;obtain ⟨y0,hy0⟩:=zGn 0 hxl (show 0<2 by decide);rw [hy0] at h0;obtain ⟨z0,r0,q0⟩:=(zQf Tryz.underlying9) _ _ _ h0;have h1:DataW.trod enc Tryz.prog w 0 sp hd n' 9 ((cs.drop 1).take (Tryz.prog.cellsOf 9))=xs[1]?:=hf 1 _ rfl;rw [jc9] at h1;obtain ⟨y1,hy1⟩:=zGn 1 hxl (show 1<2 by decide);rw [hy1] at h1;obtain ⟨z1,r1,q1⟩:=(zQf Tryz.underlying9) _ _ _ h1;exact ⟨⟨z0,z1⟩,zKg 0 1 r0 (zS9 1 1 hl r1),⟨q0,q1⟩⟩
theorem zhf:Tryz.prog.cellsOf 35=1:=by kernel_rfl
def zAa.ok (x:zAa):Prop:=((Lit.int .i64 x.Offset).wf=true)∧(x.Counts.length≤maxLen∧∀ z∈x.Counts,True)
theorem jc3:Tryz.prog.cellsOf 3=1:=by kernel_rfl
theorem jc36:Tryz.prog.cellsOf 36=1:=by kernel_rfl
theorem jc38:Tryz.prog.cellsOf 38=2:=by kernel_rfl
theorem zNu {H:Type} {enc:TypeId×Value→H} {w:World} {sp:Nat→Bool} {hd:Bool}:zO3 enc Tryz.prog w sp hd 38 zAa.rep zAa.ok:=by
 intro n cs x h;obtain ⟨xs,n',_,_,hl,hxl,hf⟩:=DataW.trod_struct Tryz.underlying38 h;rw [jc38] at hl;have h0:DataW.trod enc Tryz.prog w 0 sp hd n' 3 ((cs.drop 0).take (Tryz.prog.cellsOf 3))=xs[0]?:=hf 0 _ rfl;rw [jc3] at h0;obtain ⟨y0,hy0⟩:=zGn 0 hxl (show 0<2 by decide);rw [hy0] at h0;obtain ⟨z0,r0,q0⟩:=(zJf Tryz.underlying3) _ _ _ h0;have h1:DataW.trod enc Tryz.prog w 0 sp hd n' 36 ((cs.drop 1).take (Tryz.prog.cellsOf 36))=xs[1]?:=hf 1 _ rfl;rw [jc36] at h1;obtain ⟨y1,hy1⟩:=zGn 1 hxl (show 1<2 by decide);rw [hy1] at h1;obtain ⟨z1,r1,q1⟩:=(zRw Tryz.underlying36 zhf (zPq Tryz.underlying35)) _ _ _ h1;exact ⟨⟨z0,z1⟩,zKg 0 1 r0 (zS9 1 1 hl r1),⟨q0,q1⟩⟩
def zA2.ok (x:zA2):Prop:=((Lit.int .i64 x.Scale).wf=true)∧(True)∧(zAa.ok x.Pos)∧(zAa.ok x.Neg)
theorem jc40:Tryz.prog.cellsOf 40=6:=by kernel_rfl
theorem zR2 {H:Type} {enc:TypeId×Value→H} {w:World} {sp:Nat→Bool} {hd:Bool}:zO3 enc Tryz.prog w sp hd 40 zA2.rep zA2.ok:=by
 intro n cs x h;obtain ⟨xs,n',_,_,hl,hxl,hf⟩:=DataW.trod_struct Tryz.underlying40 h;rw [jc40] at hl;have h0:DataW.trod enc Tryz.prog w 0 sp hd n' 3 ((cs.drop 0).take (Tryz.prog.cellsOf 3))=xs[0]?:=hf 0 _ rfl;rw [jc3] at h0;obtain ⟨y0,hy0⟩:=zGn 0 hxl (show 0<4 by decide);rw [hy0] at h0;obtain ⟨z0,r0,q0⟩:=(zJf Tryz.underlying3) _ _ _ h0;have h1:DataW.trod enc Tryz.prog w 0 sp hd n' 35 ((cs.drop 1).take (Tryz.prog.cellsOf 35))=xs[1]?:=hf 1 _ rfl;rw [zhf] at h1;obtain ⟨y1,hy1⟩:=zGn 1 hxl (show 1<4 by decide);rw [hy1] at h1;obtain ⟨z1,r1,q1⟩:=(zPq Tryz.underlying35) _ _ _ h1;have h2:DataW.trod enc Tryz.prog w 0 sp hd n' 38 ((cs.drop 2).take (Tryz.prog.cellsOf 38))=xs[2]?:=hf 2 _ rfl;rw [jc38] at h2;obtain ⟨y2,hy2⟩:=zGn 2 hxl (show 2<4 by decide);rw [hy2] at h2;obtain ⟨z2,r2,q2⟩:=zNu _ _ _ h2;have h3:DataW.trod enc Tryz.prog w 0 sp hd n' 38 ((cs.drop 4).take (Tryz.prog.cellsOf 38))=xs[3]?:=hf 3 _ rfl;rw [jc38] at h3;obtain ⟨y3,hy3⟩:=zGn 3 hxl (show 3<4 by decide);rw [hy3] at h3;obtain ⟨z3,r3,q3⟩:=zNu _ _ _ h3;exact ⟨⟨z0,z1,z2,z3⟩,zKg 0 1 r0 (zKg 1 1 r1 (zKg 2 2 r2 (zS9 4 2 hl r3))),⟨q0,q1,q2,q3⟩⟩
def zA8.ok (x:zA8):Prop:=(x.Name.length≤maxLen)∧(x.Attrs.length≤maxLen∧∀ z∈x.Attrs,zA0.ok z)∧((Lit.int .i64 x.Kind).wf=true)∧((Lit.int .i64 x.Temp).wf=true)∧(True)∧((Lit.int .i64 x.Start).wf=true)∧((Lit.int .i64 x.Time).wf=true)∧((Lit.int .i64 x.Int_).wf=true)∧(True)∧(True)∧(zA2.ok x.Hist)∧((Lit.int .i64 x.Flags).wf=true)
theorem jc34:Tryz.prog.cellsOf 34=1:=by kernel_rfl
theorem jc4:Tryz.prog.cellsOf 4=1:=by kernel_rfl
theorem jc42:Tryz.prog.cellsOf 42=17:=by kernel_rfl
theorem zQg {H:Type} {enc:TypeId×Value→H} {w:World} {sp:Nat→Bool} {hd:Bool}:zO3 enc Tryz.prog w sp hd 42 zA8.rep zA8.ok:=by
 intro n cs x h;obtain ⟨xs,n',_,_,hl,hxl,hf⟩:=DataW.trod_struct Tryz.underlying42 h;rw [jc42] at hl;have h0:DataW.trod enc Tryz.prog w 0 sp hd n' 9 ((cs.drop 0).take (Tryz.prog.cellsOf 9))=xs[0]?:=hf 0 _ rfl;rw [jc9] at h0;obtain ⟨y0,hy0⟩:=zGn 0 hxl (show 0<12 by decide);rw [hy0] at h0;obtain ⟨z0,r0,q0⟩:=(zQf Tryz.underlying9) _ _ _ h0;have h1:DataW.trod enc Tryz.prog w 0 sp hd n' 34 ((cs.drop 1).take (Tryz.prog.cellsOf 34))=xs[1]?:=hf 1 _ rfl;rw [jc34] at h1;obtain ⟨y1,hy1⟩:=zGn 1 hxl (show 1<12 by decide);rw [hy1] at h1;obtain ⟨z1,r1,q1⟩:=(zRw Tryz.underlying34 zgq zR0) _ _ _ h1;have h2:DataW.trod enc Tryz.prog w 0 sp hd n' 3 ((cs.drop 2).take (Tryz.prog.cellsOf 3))=xs[2]?:=hf 2 _ rfl;rw [jc3] at h2;obtain ⟨y2,hy2⟩:=zGn 2 hxl (show 2<12 by decide);rw [hy2] at h2;obtain ⟨z2,r2,q2⟩:=(zJf Tryz.underlying3) _ _ _ h2;have h3:DataW.trod enc Tryz.prog w 0 sp hd n' 3 ((cs.drop 3).take (Tryz.prog.cellsOf 3))=xs[3]?:=hf 3 _ rfl;rw [jc3] at h3;obtain ⟨y3,hy3⟩:=zGn 3 hxl (show 3<12 by decide);rw [hy3] at h3;obtain ⟨z3,r3,q3⟩:=(zJf Tryz.underlying3) _ _ _ h3;have h4:DataW.trod enc Tryz.prog w 0 sp hd n' 4 ((cs.drop 4).take (Tryz.prog.cellsOf 4))=xs[4]?:=hf 4 _ rfl;rw [jc4] at h4;obtain ⟨y4,hy4⟩:=zGn 4 hxl (show 4<12 by decide);rw [hy4] at h4;obtain ⟨z4,r4,q4⟩:=(zXo Tryz.underlying4) _ _ _ h4;have h5:DataW.trod enc Tryz.prog w 0 sp hd n' 3 ((cs.drop 5).take (Tryz.prog.cellsOf 3))=xs[5]?:=hf 5 _ rfl;rw [jc3] at h5;obtain ⟨y5,hy5⟩:=zGn 5 hxl (show 5<12 by decide);rw [hy5] at h5;obtain ⟨z5,r5,q5⟩:=(zJf Tryz.underlying3) _ _ _ h5;have h6:DataW.trod enc Tryz.prog w 0 sp hd n' 3 ((cs.drop 6).take (Tryz.prog.cellsOf 3))=xs[6]?:=hf 6 _ rfl;rw [jc3] at h6;obtain ⟨y6,hy6⟩:=zGn 6 hxl (show 6<12 by decide);rw [hy6] at h6;obtain ⟨z6,r6,q6⟩:=(zJf Tryz.underlying3) _ _ _ h6;have h7:DataW.trod enc Tryz.prog w 0 sp hd n' 3 ((cs.drop 7).take (Tryz.prog.cellsOf 3))=xs[7]?:=hf 7 _ rfl;rw [jc3] at h7;obtain ⟨y7,hy7⟩:=zGn 7 hxl (show 7<12 by decide);rw [hy7] at h7;obtain ⟨z7,r7,q7⟩:=(zJf Tryz.underlying3) _ _ _ h7;have h8:DataW.trod enc Tryz.prog w 0 sp hd n' 35 ((cs.drop 8).take (Tryz.prog.cellsOf 35))=xs[8]?:=hf 8 _ rfl;rw [zhf] at h8;obtain ⟨y8,hy8⟩:=zGn 8 hxl (show 8<12 by decide);rw [hy8] at h8;obtain ⟨z8,r8,q8⟩:=(zPq Tryz.underlying35) _ _ _ h8;have h9:DataW.trod enc Tryz.prog w 0 sp hd n' 35 ((cs.drop 9).take (Tryz.prog.cellsOf 35))=xs[9]?:=hf 9 _ rfl;rw [zhf] at h9;obtain ⟨y9,hy9⟩:=zGn 9 hxl (show 9<12 by decide);rw [hy9] at h9;obtain ⟨z9,r9,q9⟩:=(zPq Tryz.underlying35) _ _ _ h9;have h10:DataW.trod enc Tryz.prog w 0 sp hd n' 40 ((cs.drop 10).take (Tryz.prog.cellsOf 40))=xs[10]?:=hf 10 _ rfl;rw [jc40] at h10;obtain ⟨y10,hy10⟩:=zGn 10 hxl (show 10<12 by decide);rw [hy10] at h10;obtain ⟨z10,r10,q10⟩:=zR2 _ _ _ h10;have h11:DataW.trod enc Tryz.prog w 0 sp hd n' 3 ((cs.drop 16).take (Tryz.prog.cellsOf 3))=xs[11]?:=hf 11 _ rfl;rw [jc3] at h11;obtain ⟨y11,hy11⟩:=zGn 11 hxl (show 11<12 by decide);rw [hy11] at h11;obtain ⟨z11,r11,q11⟩:=(zJf Tryz.underlying3) _ _ _ h11;exact ⟨⟨z0,z1,z2,z3,z4,z5,z6,z7,z8,z9,z10,z11⟩,zKg 0 1 r0 (zKg 1 1 r1 (zKg 2 1 r2 (zKg 3 1 r3 (zKg 4 1 r4 (zKg 5 1 r5 (zKg 6 1 r6 (zKg 7 1 r7 (zKg 8 1 r8 (zKg 9 1 r9 (zKg 10 6 r10 (zS9 16 1 hl r11))))))))))),⟨q0,q1,q2,q3,q4,q5,q6,q7,q8,q9,q10,q11⟩⟩
def zAc.ok (x:zAc):Prop:=((Lit.int .i64 x.Ord).wf=true)∧(zA8.ok x.Point)
theorem zR1 {H:Type} {enc:TypeId×Value→H} {w:World} {sp:Nat→Bool} {hd:Bool}:zO3 enc Tryz.prog w sp hd 44 zAc.rep zAc.ok:=by
 intro n cs x h;obtain ⟨xs,n',_,_,hl,hxl,hf⟩:=DataW.trod_struct Tryz.underlying44 h;rw [jc44] at hl;have h0:DataW.trod enc Tryz.prog w 0 sp hd n' 3 ((cs.drop 0).take (Tryz.prog.cellsOf 3))=xs[0]?:=hf 0 _ rfl;rw [jc3] at h0;obtain ⟨y0,hy0⟩:=zGn 0 hxl (show 0<2 by decide);rw [hy0] at h0;obtain ⟨z0,r0,q0⟩:=(zJf Tryz.underlying3) _ _ _ h0;have h1:DataW.trod enc Tryz.prog w 0 sp hd n' 42 ((cs.drop 1).take (Tryz.prog.cellsOf 42))=xs[1]?:=hf 1 _ rfl;rw [jc42] at h1;obtain ⟨y1,hy1⟩:=zGn 1 hxl (show 1<2 by decide);rw [hy1] at h1;obtain ⟨z1,r1,q1⟩:=zQg _ _ _ h1;exact ⟨⟨z0,z1⟩,zKg 0 1 r0 (zS9 1 17 hl r1),⟨q0,q1⟩⟩
namespace chunkBack
open Go.ChangeShapes Go.WideShapes Go.ChangeAt Go.RowKit Go.Wk Go
theorem own:ownKnob Tryz.prog.godebug=none:=by kernel_rfl
theorem laidOut:laidOutB Tryz.prog=true:=by kernel_rfl
theorem rd24:Tryz.prog.readableRec 24=true∧24<Tryz.prog.types.size:=⟨by kernel_rfl,of_decide_eq_true (by kernel_rfl)⟩
theorem readable:∀ t∈Tryz.f4.params.toList,Tryz.prog.readableRec t=true∧t<Tryz.prog.types.size:=by
 rw [Tryz.params4];exact List.forall_mem_cons.2 ⟨rd24,λ_ h=>by cases h⟩
set_option maxRecDepth 100000 in
theorem contract (H:Type) (enc:TypeId×Value→H) (W:World) (base:Nat) (args:Array Value) (ds gs:List (DataW H)) (before:List MemPlace)
 (hval:∀ (j:Nat) t v,Tryz.f4.params[j]?=some t→args[j]?=some v→Value.okWide Tryz.prog W .any base t v)
 (hW:DataW.Whole enc Tryz.prog Tryz.f4.params.toList Rows.chunkBackSpec.vars false W args.toList ds gs before) (hL:laidMetH Tryz.prog laidAll W) :
 Calls Tryz.prog 4 args W λe W'=>∃ v,e=.returned v∧Rows.chunkBackSpec.post enc Tryz.prog Tryz.f4 false true false false W args v W':=by
 have hW':=hW;obtain ⟨p,q,hA0,hV,rfl,hfz,hnd⟩:=hW;have hA:DataW.TrodAll enc Tryz.prog W 0 (λ_=>true) true Tryz.f4.params.toList args.toList ds p:=hA0;rw [Tryz.params4] at hA hval;obtain ⟨v0,vs0,d0,ds0,p0,q0,hargs,rfl,rfl,h0,r0⟩:=trodAll_cons hA;obtain ⟨rfl,rfl,rfl⟩:=trodAll_nil r0
 obtain rfl:args=#[v0]:=by cases args;simp_all
 obtain ⟨rfl,rfl⟩:=trodVars_none hV;obtain ⟨x0,A0,c0,rfl,f0,k0⟩:=za5 Tryz.underlying24 jc44 zR1 (hval 0 24 v0 rfl rfl) h0;obtain ⟨g1,g3⟩:=zXs hL
 refine (zK7 (Z0:=All) (zcd x0 k0) f0 g1 g3 :).mono λe W' ⟨he,hx⟩=>⟨_,he,?_⟩
 exact zVn laidOut readable hW' rfl (by kernel_rfl) Tryz.underlying4 rfl rfl rfl hx.fr
set_option maxRecDepth 100000 in
theorem lifted (os:Os) (started:os.Started) (H:Type) (enc:TypeId×Value→H) :
 ReturnsInHanded {} Tryz.checked os 4 .any (λw args=>(Rows.chunkBackSpec.pre enc Tryz.prog Tryz.f4 Rows.chunkBackRow.domain false w args∧laidMetH Tryz.prog laidAll w)∧sizedMet enc Tryz.prog Tryz.f4 (OpenSpec.ofChange Rows.chunkBackSpec) false w args) (Rows.chunkBackSpec.post enc Tryz.prog Tryz.f4 false true false false):=by
 refine returnsInHanded_of_change_and (C:=Tryz.checked) (X:=λw _=>laidMetH Tryz.prog laidAll w) (λ_ _ _ hh h=>h.of_heap hh) own started (by kernel_rfl) Tryz.func4
  (ChangeSpec.witness_shaped (enc:=enc) (C:=Tryz.checked) (os:=os) (X:=λw _=>laidMetH Tryz.prog laidAll w) false (World.laidAll Tryz.prog os laidAll) #[.slice none 0 0] 8 (World.laidAll_os _ _ _)
   (World.shaped_of_ZipB (by kernel_rfl) (by kernel_rfl)) (by kernel_rfl) (by kernel_rfl) (by kernel_rfl)
   (by rw [MakeChecks.laidMetH_plain _ _ _ (by kernel_rfl)];exact laidMet_laidAll _ (by kernel_rfl) (by kernel_rfl))) ?_
 intro W base args ds gs before hval hW _ _ hL _;exact contract H enc W base args ds gs before hval hW hL
theorem holds:Rows.ChunkBackSaid:=
 OpenClaim.holds_of_wide 4 Tryz.f4 rfl rfl rfl rfl rfl rfl rfl ⟨rfl,rfl,rfl,rfl,rfl⟩ rfl rfl rfl rfl rfl (by kernel_rfl) Tryz.func4 (by kernel_rfl)
  (of_decide_eq_true (by kernel_rfl)) (by unfold Func.isWrapper;first | (rw [if_pos (by decide +kernel)];kernel_rfl) | (rw [if_neg (by decide +kernel)];exact ⟨rfl,rfl⟩))
  (λos started H enc _=>lifted os started H enc)
set_option maxRecDepth 100000 in
theorem cardHolds:Rows.ChunkBackCardSaid:=
 Claim7.holds_tied_plain_at .later [] [.data, .data] true (true, "e9b3fb07afedc5740d296b4d5eb01358438e92b07831f125b1e73d76a72a09b2") false holds (fun _ h => by cases h) (by kernel_rfl) (fun _ h => by cases h) chunkBack_row_tie rfl ⟨rfl, rfl⟩ (by kernel_rfl) rfl
  (λf fn hf hfn=>by
   obtain rfl : f = 4 := Option.some.inj ((show Tryz.prog.funcNamed "limnograph/limnographlaw13.ChunkBack" = some 4 by kernel_rfl).symm.trans hf) |>.symm
   obtain rfl:fn=Tryz.f4:=(Option.some.inj (Tryz.func4.symm.trans hfn)).symm
   exact ⟨by kernel_rfl,λj t ht=>by
    rw [Tryz.params4] at ht
    have hm:t∈[24]:=by simpa using Array.mem_of_getElem? ht
    have hall:([24].all λu=>!Tryz.prog.wantsStandIn u)=true:=by kernel_rfl
    exact (show Tryz.prog.wantsStandIn t=false by simpa using List.all_eq_true.1 hall t hm)⟩)
  (by kernel_rfl)
end chunkBack
end Go.Proofs.YthjhejgjcdajdaaGreatDoor
