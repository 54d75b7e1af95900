import Derived.Test.YtffboddbdpagkaaGreatDoorVN2
import Derived.Test.YtffboddbdpagkaaGreatDoorTie
import Derived.Test.YtffboddbdpagkaaGreatDoorCards
import Derived.Test.YtffboddbdpagkaaGreatDoorGN
import Derived.ProofKit
import Derived.OpenShut
import Derived.LaidMore
import Derived.Lay
import Derived.SevenTiedAt
import Derived.Stop.Joined
import Derived.Test.YtffboddbdpagkaaGreatDoorSN2
import Derived.Test.YtffboddbdpagkaaGreatDoorPN
set_option linter.unusedVariables false
set_option linter.unusedSimpArgs false
namespace Go.Proofs.YtffboddbdpagkaaGreatDoor
open Go Go.RowKit Go.Wk Go.WideShapes Go.ChangeShapes
theorem jc39:Tryz.prog.cellsOf 39=1:=by kernel_rfl
def T_api_Side.ok (x:T_api_Side):Prop:=((Lit.int .i64 x.Offset).wf=true)∧(x.Counts.length≤maxLen∧∀ z∈x.Counts,True)
theorem jc3:Tryz.prog.cellsOf 3=1:=by kernel_rfl
theorem jc40:Tryz.prog.cellsOf 40=1:=by kernel_rfl
theorem jc42:Tryz.prog.cellsOf 42=2:=by kernel_rfl
theorem reads_T_api_Side {H:Type} {enc:TypeId×Value→H} {w:World} {sp:Nat→Bool} {hd:Bool}:ReadsP enc Tryz.prog w sp hd 42 T_api_Side.rep T_api_Side.ok:=by
 intro n cs x h;obtain ⟨xs,n',_,_,hl,hxl,hf⟩:=DataW.trod_struct Tryz.underlying42 h;rw [jc42] at hl;have h0:DataW.trod enc Tryz.prog w 0 sp hd n' 3 ((cs.drop 0).take (Tryz.prog.cellsOf 3))=xs[0]?:=hf 0 _ rfl;rw [jc3] at h0;obtain ⟨y0,hy0⟩:=some_at 0 hxl (show 0<2 by decide);rw [hy0] at h0;obtain ⟨z0,r0,q0⟩:=(reads_int Tryz.underlying3) _ _ _ h0;have h1:DataW.trod enc Tryz.prog w 0 sp hd n' 40 ((cs.drop 1).take (Tryz.prog.cellsOf 40))=xs[1]?:=hf 1 _ rfl;rw [jc40] at h1;obtain ⟨y1,hy1⟩:=some_at 1 hxl (show 1<2 by decide);rw [hy1] at h1;obtain ⟨z1,r1,q1⟩:=(reads_slP Tryz.underlying40 jc39 (reads_w64 Tryz.underlying39)) _ _ _ h1;exact ⟨⟨z0,z1⟩,two_at 0 1 r0 (last_at 1 1 hl r1),⟨q0,q1⟩⟩
def T_api_Hist.ok (x:T_api_Hist):Prop:=((Lit.int .i64 x.Scale).wf=true)∧(True)∧(T_api_Side.ok x.Pos)∧(T_api_Side.ok x.Neg)
theorem jc44:Tryz.prog.cellsOf 44=6:=by kernel_rfl
theorem reads_T_api_Hist {H:Type} {enc:TypeId×Value→H} {w:World} {sp:Nat→Bool} {hd:Bool}:ReadsP enc Tryz.prog w sp hd 44 T_api_Hist.rep T_api_Hist.ok:=by
 intro n cs x h;obtain ⟨xs,n',_,_,hl,hxl,hf⟩:=DataW.trod_struct Tryz.underlying44 h;rw [jc44] at hl;have h0:DataW.trod enc Tryz.prog w 0 sp hd n' 3 ((cs.drop 0).take (Tryz.prog.cellsOf 3))=xs[0]?:=hf 0 _ rfl;rw [jc3] at h0;obtain ⟨y0,hy0⟩:=some_at 0 hxl (show 0<4 by decide);rw [hy0] at h0;obtain ⟨z0,r0,q0⟩:=(reads_int Tryz.underlying3) _ _ _ h0;have h1:DataW.trod enc Tryz.prog w 0 sp hd n' 39 ((cs.drop 1).take (Tryz.prog.cellsOf 39))=xs[1]?:=hf 1 _ rfl;rw [jc39] at h1;obtain ⟨y1,hy1⟩:=some_at 1 hxl (show 1<4 by decide);rw [hy1] at h1;obtain ⟨z1,r1,q1⟩:=(reads_w64 Tryz.underlying39) _ _ _ h1;have h2:DataW.trod enc Tryz.prog w 0 sp hd n' 42 ((cs.drop 2).take (Tryz.prog.cellsOf 42))=xs[2]?:=hf 2 _ rfl;rw [jc42] at h2;obtain ⟨y2,hy2⟩:=some_at 2 hxl (show 2<4 by decide);rw [hy2] at h2;obtain ⟨z2,r2,q2⟩:=reads_T_api_Side _ _ _ h2;have h3:DataW.trod enc Tryz.prog w 0 sp hd n' 42 ((cs.drop 4).take (Tryz.prog.cellsOf 42))=xs[3]?:=hf 3 _ rfl;rw [jc42] at h3;obtain ⟨y3,hy3⟩:=some_at 3 hxl (show 3<4 by decide);rw [hy3] at h3;obtain ⟨z3,r3,q3⟩:=reads_T_api_Side _ _ _ h3;exact ⟨⟨z0,z1,z2,z3⟩,two_at 0 1 r0 (two_at 1 1 r1 (two_at 2 2 r2 (last_at 4 2 hl r3))),⟨q0,q1,q2,q3⟩⟩
namespace queryNth
open Go.ChangeShapes Go.WideShapes Go.ChangeAt Go.RowKit Go.Wk Go
theorem own:ownKnob Tryz.prog.godebug=none:=by kernel_rfl
theorem laidOut:laidOutB Tryz.prog=true:=by kernel_rfl
theorem rd39:Tryz.prog.readableRec 39=true∧39<Tryz.prog.types.size:=⟨by kernel_rfl,of_decide_eq_true (by kernel_rfl)⟩
theorem rd44:Tryz.prog.readableRec 44=true∧44<Tryz.prog.types.size:=⟨by kernel_rfl,of_decide_eq_true (by kernel_rfl)⟩
theorem readable:∀ t∈Tryz.f4.params.toList,Tryz.prog.readableRec t=true∧t<Tryz.prog.types.size:=by
 rw [Tryz.params4];exact List.forall_mem_cons.2 ⟨rd44,List.forall_mem_cons.2 ⟨rd39,List.forall_mem_cons.2 ⟨rd39,List.forall_mem_cons.2 ⟨rd39,λ_ h=>by cases h⟩⟩⟩⟩
set_option maxRecDepth 100000 in
theorem contract (H:Type) (enc:TypeId×Value→H) (W:World) (base:Nat) (args:Array Value) (ds gs:List (DataW H)) (before:List MemPlace)
 (hval:∀ (j:Nat) t v,Tryz.f4.params[j]?=some t→args[j]?=some v→Value.okWide Tryz.prog W .any base t v)
 (hW:DataW.Whole enc Tryz.prog Tryz.f4.params.toList Rows.queryNthSpec.vars false W args.toList ds gs before) (hL:laidMetH Tryz.prog laidAll W) :
 Calls Tryz.prog 4 args W λe W'=>∃ v,e=.returned v∧Rows.queryNthSpec.post enc Tryz.prog Tryz.f4 false true false false W args v W':=by
 have hW':=hW;obtain ⟨p,q,hA0,hV,rfl,hfz,hnd⟩:=hW;have hA:DataW.TrodAll enc Tryz.prog W 0 (λ_=>true) true Tryz.f4.params.toList args.toList ds p:=hA0;rw [Tryz.params4] at hA hval;obtain ⟨v0,vs0,d0,ds0,p0,q0,hargs,rfl,rfl,h0,r0⟩:=trodAll_cons hA;obtain ⟨v1,vs1,d1,ds1,p1,q1,rfl,rfl,rfl,h1,r1⟩:=trodAll_cons r0;obtain ⟨v2,vs2,d2,ds2,p2,q2,rfl,rfl,rfl,h2,r2⟩:=trodAll_cons r1;obtain ⟨v3,vs3,d3,ds3,p3,q3,rfl,rfl,rfl,h3,r3⟩:=trodAll_cons r2;obtain ⟨rfl,rfl,rfl⟩:=trodAll_nil r3
 obtain rfl:args=#[v0,v1,v2,v3]:=by cases args;simp_all
 obtain ⟨rfl,rfl⟩:=trodVars_none hV;obtain ⟨x0,cs0,rfl,f0,k0⟩:=arg_agg Tryz.underlying44 (reads_T_api_Hist) (hval 0 44 v0 rfl rfl) h0;obtain ⟨x1,rfl⟩:=arg_w64 Tryz.underlying39 (hval 1 39 v1 rfl rfl) h1;obtain ⟨x2,rfl⟩:=arg_w64 Tryz.underlying39 (hval 2 39 v2 rfl rfl) h2;obtain ⟨x3,rfl⟩:=arg_w64 Tryz.underlying39 (hval 3 39 v3 rfl rfl) h3
 refine (m_limnographlaw37_QueryNth_sim (Z0:=All) (nth_law x0 x1 x2 x3) f0 :).mono λe W' ⟨he,hx⟩=>⟨_,he,?_⟩
 exact post_of_ext laidOut readable hW' rfl (by kernel_rfl) Tryz.underlying4 rfl rfl rfl hx.fr
set_option maxRecDepth 100000 in
theorem lifted (os:Os) (started:os.Started) (H:Type) (enc:TypeId×Value→H) :
 ReturnsInHanded {} Tryz.checked os 4 .any (λw args=>(Rows.queryNthSpec.pre enc Tryz.prog Tryz.f4 Rows.queryNthRow.domain false w args∧laidMetH Tryz.prog laidAll w)∧sizedMet enc Tryz.prog Tryz.f4 (OpenSpec.ofChange Rows.queryNthSpec) false w args) (Rows.queryNthSpec.post enc Tryz.prog Tryz.f4 false true false false):=by
 refine returnsInHanded_of_change_and (C:=Tryz.checked) (X:=λw _=>laidMetH Tryz.prog laidAll w) (λ_ _ _ hh h=>h.of_heap hh) own started (by kernel_rfl) Tryz.func4
  (ChangeSpec.witness_shaped (enc:=enc) (C:=Tryz.checked) (os:=os) (X:=λw _=>laidMetH Tryz.prog laidAll w) false (World.laidAll Tryz.prog os laidAll) #[.agg #[.int .i64 0,.int .u64 0,.int .i64 0,.slice none 0 0,.int .i64 0,.slice none 0 0],.int .u64 0,.int .u64 0,.int .u64 0] 8 (World.laidAll_os _ _ _)
   (World.shaped_of_ZipB (by kernel_rfl) (by kernel_rfl)) (by kernel_rfl) (by kernel_rfl) (by kernel_rfl)
   (by rw [MakeChecks.laidMetH_plain _ _ _ (by kernel_rfl)];exact laidMet_laidAll _ (by kernel_rfl) (by kernel_rfl))) ?_
 intro W base args ds gs before hval hW _ _ hL _;exact contract H enc W base args ds gs before hval hW hL
theorem holds:Rows.QueryNthSaid:=
 OpenClaim.holds_of_wide 4 Tryz.f4 rfl rfl rfl rfl rfl rfl rfl ⟨rfl,rfl,rfl,rfl,rfl⟩ rfl rfl rfl rfl rfl (by kernel_rfl) Tryz.func4 (by kernel_rfl)
  (of_decide_eq_true (by kernel_rfl)) (by unfold Func.isWrapper;first | (rw [if_pos (by decide +kernel)];kernel_rfl) | (rw [if_neg (by decide +kernel)];exact ⟨rfl,rfl⟩))
  (λos started H enc _=>lifted os started H enc)
set_option maxRecDepth 100000 in
theorem cardHolds:Rows.QueryNthCardSaid:=
 Claim7.holds_tied_plain_at .later [] [.data] true (true, "651b924c2d78c73309521dc952cb083baa457a74cc2e6fad920d532123c3f328") false holds (fun _ h => by cases h) (by kernel_rfl) (fun _ h => by cases h) queryNth_row_tie rfl ⟨rfl, rfl⟩ (by kernel_rfl) rfl
  (λf fn hf hfn=>by
   obtain rfl : f = 4 := Option.some.inj ((show Tryz.prog.funcNamed "limnograph/limnographlaw37.QueryNth" = some 4 by kernel_rfl).symm.trans hf) |>.symm
   obtain rfl:fn=Tryz.f4:=(Option.some.inj (Tryz.func4.symm.trans hfn)).symm
   exact ⟨by kernel_rfl,λj t ht=>by
    rw [Tryz.params4] at ht
    have hm:t∈[44,39,39,39]:=by simpa using Array.mem_of_getElem? ht
    have hall:([44,39,39,39].all λu=>!Tryz.prog.wantsStandIn u)=true:=by kernel_rfl
    exact (show Tryz.prog.wantsStandIn t=false by simpa using List.all_eq_true.1 hall t hm)⟩)
  (by kernel_rfl)
end queryNth
end Go.Proofs.YtffboddbdpagkaaGreatDoor
