import Derived.Test.YtpcpfjpcfcbopaaGreatDoorVC2
import Derived.Test.YtpcpfjpcfcbopaaGreatDoorTie
import Derived.Test.YtpcpfjpcfcbopaaGreatDoorCards
import Derived.Test.YtpcpfjpcfcbopaaGreatDoorGC
import Derived.ProofKit
import Derived.OpenShut
import Derived.LaidMore
import Derived.Lay
import Derived.SevenTiedAt
import Derived.Stop.Joined
import Derived.Test.YtpcpfjpcfcbopaaGreatDoorSC3
import Derived.Test.YtpcpfjpcfcbopaaGreatDoorPC
namespace Go.Proofs.YtpcpfjpcfcbopaaGreatDoor
open Go Go.RowKit Go.Wk Go.WideShapes Go.ChangeShapes
theorem jc9:Tryz.prog.cellsOf 9=1:=by kernel_rfl
theorem jc50:Tryz.prog.cellsOf 50=3:=by kernel_rfl
def T_api_Match.ok (x:T_api_Match):Prop:=(x.Key.length≤maxLen)∧(x.Glob.length≤maxLen)∧(True)
theorem jc4:Tryz.prog.cellsOf 4=1:=by kernel_rfl
theorem reads_T_api_Match {H:Type} {enc:TypeId×Value→H} {w:World} {sp:Nat→Bool} {hd:Bool}:ReadsP enc Tryz.prog w sp hd 50 T_api_Match.rep T_api_Match.ok:=by
 intro n cs x h;obtain ⟨xs,n',_,_,hl,hxl,hf⟩:=DataW.trod_struct Tryz.underlying50 h;rw [jc50] at hl;have h0:DataW.trod enc Tryz.prog w 0 sp hd n' 9 ((cs.drop 0).take (Tryz.prog.cellsOf 9))=xs[0]?:=hf 0 _ rfl;rw [jc9] at h0;obtain ⟨y0,hy0⟩:=some_at 0 hxl (show 0<3 by decide);rw [hy0] at h0;obtain ⟨z0,r0,q0⟩:=(reads_text Tryz.underlying9) _ _ _ h0;have h1:DataW.trod enc Tryz.prog w 0 sp hd n' 9 ((cs.drop 1).take (Tryz.prog.cellsOf 9))=xs[1]?:=hf 1 _ rfl;rw [jc9] at h1;obtain ⟨y1,hy1⟩:=some_at 1 hxl (show 1<3 by decide);rw [hy1] at h1;obtain ⟨z1,r1,q1⟩:=(reads_text Tryz.underlying9) _ _ _ h1;have h2:DataW.trod enc Tryz.prog w 0 sp hd n' 4 ((cs.drop 2).take (Tryz.prog.cellsOf 4))=xs[2]?:=hf 2 _ rfl;rw [jc4] at h2;obtain ⟨y2,hy2⟩:=some_at 2 hxl (show 2<3 by decide);rw [hy2] at h2;obtain ⟨z2,r2,q2⟩:=(reads_bool Tryz.underlying4) _ _ _ h2;exact ⟨⟨z0,z1,z2⟩,two_at 0 1 r0 (two_at 1 1 r1 (last_at 2 1 hl r2)),⟨q0,q1,q2⟩⟩
namespace indexSelects
open Go.ChangeShapes Go.WideShapes Go.ChangeAt Go.RowKit Go.Wk Go
theorem own:ownKnob Tryz.prog.godebug=none:=by kernel_rfl
theorem laidOut:laidOutB Tryz.prog=true:=by kernel_rfl
theorem rd22:Tryz.prog.readableRec 22=true∧22<Tryz.prog.types.size:=⟨by kernel_rfl,of_decide_eq_true (by kernel_rfl)⟩
theorem rd23:Tryz.prog.readableRec 23=true∧23<Tryz.prog.types.size:=⟨by kernel_rfl,of_decide_eq_true (by kernel_rfl)⟩
theorem readable:∀ t∈Tryz.f3.params.toList,Tryz.prog.readableRec t=true∧t<Tryz.prog.types.size:=by
 rw [Tryz.params3];exact List.forall_mem_cons.2 ⟨rd22,List.forall_mem_cons.2 ⟨rd23,λ_ h=>by cases h⟩⟩
set_option maxRecDepth 100000 in
theorem contract (H:Type) (enc:TypeId×Value→H) (W:World) (base:Nat) (args:Array Value) (ds gs:List (DataW H)) (before:List MemPlace)
 (hval:∀ (j:Nat) t v,Tryz.f3.params[j]?=some t→args[j]?=some v→Value.okWide Tryz.prog W .any base t v)
 (hW:DataW.Whole enc Tryz.prog Tryz.f3.params.toList Rows.indexSelectsSpec.vars false W args.toList ds gs before) (hL:laidMetH Tryz.prog laidAll W) :
 Calls Tryz.prog 3 args W λe W'=>∃ v,e=.returned v∧Rows.indexSelectsSpec.post enc Tryz.prog Tryz.f3 false true false false W args v W':=by
 have hW':=hW;obtain ⟨p,q,hA0,hV,rfl,hfz,hnd⟩:=hW;have hA:DataW.TrodAll enc Tryz.prog W 0 (λ_=>true) true Tryz.f3.params.toList args.toList ds p:=hA0;rw [Tryz.params3] at hA hval;obtain ⟨v0,vs0,d0,ds0,p0,q0,hargs,rfl,rfl,h0,r0⟩:=trodAll_cons hA;obtain ⟨v1,vs1,d1,ds1,p1,q1,rfl,rfl,rfl,h1,r1⟩:=trodAll_cons r0;obtain ⟨rfl,rfl,rfl⟩:=trodAll_nil r1
 obtain rfl:args=#[v0,v1]:=by cases args;simp_all
 obtain ⟨rfl,rfl⟩:=trodVars_none hV;obtain ⟨x0,A0,c0,rfl,f0,k0⟩:=arg_slice Tryz.underlying22 jc9 (reads_text Tryz.underlying9) (hval 0 22 v0 rfl rfl) h0;obtain ⟨x1,A1,c1,rfl,f1,k1⟩:=arg_slice Tryz.underlying23 jc50 reads_T_api_Match (hval 1 23 v1 rfl rfl) h1;have g0:=laid_cells hL
 refine (m_limnographlaw35_IndexSelects_sim (Z0:=All) (selects_law x0 x1) f0 f1 g0 :).mono λe W' ⟨he,hx⟩=>⟨_,he,?_⟩
 exact post_of_ext laidOut readable hW' rfl (by kernel_rfl) Tryz.underlying4 rfl rfl rfl hx.fr
set_option maxRecDepth 100000 in
theorem lifted (os:Os) (started:os.Started) (H:Type) (enc:TypeId×Value→H) :
 ReturnsInHanded {} Tryz.checked os 3 .any (λw args=>(Rows.indexSelectsSpec.pre enc Tryz.prog Tryz.f3 Rows.indexSelectsRow.domain false w args∧laidMetH Tryz.prog laidAll w)∧sizedMet enc Tryz.prog Tryz.f3 (OpenSpec.ofChange Rows.indexSelectsSpec) false w args) (Rows.indexSelectsSpec.post enc Tryz.prog Tryz.f3 false true false false):=by
 refine returnsInHanded_of_change_and (C:=Tryz.checked) (X:=λw _=>laidMetH Tryz.prog laidAll w) (λ_ _ _ hh h=>h.of_heap hh) own started (by kernel_rfl) Tryz.func3
  (ChangeSpec.witness_shaped (enc:=enc) (C:=Tryz.checked) (os:=os) (X:=λw _=>laidMetH Tryz.prog laidAll w) false (World.laidAll Tryz.prog os laidAll) #[.slice none 0 0,.slice none 0 0] 8 (World.laidAll_os _ _ _)
   (World.shaped_of_ZipB (by kernel_rfl) (by kernel_rfl)) (by kernel_rfl) (by kernel_rfl) (by kernel_rfl)
   (by rw [MakeChecks.laidMetH_plain _ _ _ (by kernel_rfl)];exact laidMet_laidAll _ (by kernel_rfl) (by kernel_rfl))) ?_
 intro W base args ds gs before hval hW _ _ hL _;exact contract H enc W base args ds gs before hval hW hL
theorem holds:Rows.IndexSelectsSaid:=
 OpenClaim.holds_of_wide 3 Tryz.f3 rfl rfl rfl rfl rfl rfl rfl ⟨rfl,rfl,rfl,rfl,rfl⟩ rfl rfl rfl rfl rfl (by kernel_rfl) Tryz.func3 (by kernel_rfl)
  (of_decide_eq_true (by kernel_rfl)) (by unfold Func.isWrapper;first | (rw [if_pos (by decide +kernel)];kernel_rfl) | (rw [if_neg (by decide +kernel)];exact ⟨rfl,rfl⟩))
  (λos started H enc _=>lifted os started H enc)
set_option maxRecDepth 100000 in
theorem cardHolds:Rows.IndexSelectsCardSaid:=
 Claim7.holds_tied_plain_at .later [] [.data] true (true, "e4cda57abafc2d3a85e61e8db845b5e1a461edb7b86ed2294215204bedd94d58") false holds (fun _ h => by cases h) (by kernel_rfl) (fun _ h => by cases h) indexSelects_row_tie rfl ⟨rfl, rfl⟩ (by kernel_rfl) rfl
  (λf fn hf hfn=>by
   obtain rfl : f = 3 := Option.some.inj ((show Tryz.prog.funcNamed "limnograph/limnographlaw35.IndexSelects" = some 3 by kernel_rfl).symm.trans hf) |>.symm
   obtain rfl:fn=Tryz.f3:=(Option.some.inj (Tryz.func3.symm.trans hfn)).symm
   exact ⟨by kernel_rfl,λj t ht=>by
    rw [Tryz.params3] at ht
    have hm:t∈[22,23]:=by simpa using Array.mem_of_getElem? ht
    have hall:([22,23].all λu=>!Tryz.prog.wantsStandIn u)=true:=by kernel_rfl
    exact (show Tryz.prog.wantsStandIn t=false by simpa using List.all_eq_true.1 hall t hm)⟩)
  (by kernel_rfl)
end indexSelects
end Go.Proofs.YtpcpfjpcfcbopaaGreatDoor
