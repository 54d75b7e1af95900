import Derived.Test.YtpcpfjpcfcbopaaGreatDoorVB2
import Derived.Test.YtpcpfjpcfcbopaaGreatDoorTie
import Derived.Test.YtpcpfjpcfcbopaaGreatDoorCards
import Derived.Test.YtpcpfjpcfcbopaaGreatDoorGB
import Derived.ProofKit
import Derived.OpenShut
import Derived.LaidMore
import Derived.Lay
import Derived.SevenTiedAt
import Derived.Stop.Joined
import Derived.Test.YtpcpfjpcfcbopaaGreatDoorSB2
import Derived.Test.YtpcpfjpcfcbopaaGreatDoorPB
set_option linter.unusedVariables false
set_option linter.unusedSimpArgs false
namespace Go.Proofs.YtpcpfjpcfcbopaaGreatDoor
open Go Go.RowKit Go.Wk Go.WideShapes Go.ChangeShapes
theorem jc9:Tryz.prog.cellsOf 9=1:=by kernel_rfl
namespace indexNew
open Go.ChangeShapes Go.WideShapes Go.ChangeAt Go.RowKit Go.Wk Go
theorem own:ownKnob Tryz.prog.godebug=none:=by kernel_rfl
theorem laidOut:laidOutB Tryz.prog=true:=by kernel_rfl
theorem rd3:Tryz.prog.readableRec 3=true∧3<Tryz.prog.types.size:=⟨by kernel_rfl,of_decide_eq_true (by kernel_rfl)⟩
theorem rd9:Tryz.prog.readableRec 9=true∧9<Tryz.prog.types.size:=⟨by kernel_rfl,of_decide_eq_true (by kernel_rfl)⟩
theorem rd22:Tryz.prog.readableRec 22=true∧22<Tryz.prog.types.size:=⟨by kernel_rfl,of_decide_eq_true (by kernel_rfl)⟩
theorem readable:∀ t∈Tryz.f4.params.toList,Tryz.prog.readableRec t=true∧t<Tryz.prog.types.size:=by
 rw [Tryz.params4];exact List.forall_mem_cons.2 ⟨rd22,List.forall_mem_cons.2 ⟨rd3,List.forall_mem_cons.2 ⟨rd9,List.forall_mem_cons.2 ⟨rd9,λ_ h=>by cases h⟩⟩⟩⟩
set_option maxRecDepth 100000 in
theorem contract (H:Type) (enc:TypeId×Value→H) (W:World) (base:Nat) (args:Array Value) (ds gs:List (DataW H)) (before:List MemPlace)
 (hval:∀ (j:Nat) t v,Tryz.f4.params[j]?=some t→args[j]?=some v→Value.okWide Tryz.prog W .any base t v)
 (hW:DataW.Whole enc Tryz.prog Tryz.f4.params.toList Rows.indexNewSpec.vars false W args.toList ds gs before) (hL:laidMetH Tryz.prog laidAll W) :
 Calls Tryz.prog 4 args W λe W'=>∃ v,e=.returned v∧Rows.indexNewSpec.post enc Tryz.prog Tryz.f4 false true false false W args v W':=by
 have hW':=hW;obtain ⟨p,q,hA0,hV,rfl,hfz,hnd⟩:=hW;have hA:DataW.TrodAll enc Tryz.prog W 0 (λ_=>true) true Tryz.f4.params.toList args.toList ds p:=hA0;rw [Tryz.params4] at hA hval;obtain ⟨v0,vs0,d0,ds0,p0,q0,hargs,rfl,rfl,h0,r0⟩:=trodAll_cons hA;obtain ⟨v1,vs1,d1,ds1,p1,q1,rfl,rfl,rfl,h1,r1⟩:=trodAll_cons r0;obtain ⟨v2,vs2,d2,ds2,p2,q2,rfl,rfl,rfl,h2,r2⟩:=trodAll_cons r1;obtain ⟨v3,vs3,d3,ds3,p3,q3,rfl,rfl,rfl,h3,r3⟩:=trodAll_cons r2;obtain ⟨rfl,rfl,rfl⟩:=trodAll_nil r3
 obtain rfl:args=#[v0,v1,v2,v3]:=by cases args;simp_all
 obtain ⟨rfl,rfl⟩:=trodVars_none hV;obtain ⟨x0,A0,c0,rfl,f0,k0⟩:=arg_slice Tryz.underlying22 jc9 (reads_text Tryz.underlying9) (hval 0 22 v0 rfl rfl) h0;obtain ⟨x1,rfl,k1⟩:=arg_int Tryz.underlying3 (hval 1 3 v1 rfl rfl) h1;obtain ⟨x2,rfl,k2⟩:=arg_text Tryz.underlying9 (hval 2 9 v2 rfl rfl) h2;obtain ⟨x3,rfl,k3⟩:=arg_text Tryz.underlying9 (hval 3 9 v3 rfl rfl) h3;have g0:=laid_cells hL
 refine (m_limnographlaw35_IndexNew_sim (Z0:=All) (new_law x0 x1 x2 x3) f0 g0 :).mono λe W' ⟨he,hx⟩=>⟨_,he,?_⟩
 exact post_of_ext laidOut readable hW' rfl (by kernel_rfl) Tryz.underlying4 rfl rfl rfl hx.fr
set_option maxRecDepth 100000 in
theorem lifted (os:Os) (started:os.Started) (H:Type) (enc:TypeId×Value→H) :
 ReturnsInHanded {} Tryz.checked os 4 .any (λw args=>(Rows.indexNewSpec.pre enc Tryz.prog Tryz.f4 Rows.indexNewRow.domain false w args∧laidMetH Tryz.prog laidAll w)∧sizedMet enc Tryz.prog Tryz.f4 (OpenSpec.ofChange Rows.indexNewSpec) false w args) (Rows.indexNewSpec.post enc Tryz.prog Tryz.f4 false true false false):=by
 refine returnsInHanded_of_change_and (C:=Tryz.checked) (X:=λw _=>laidMetH Tryz.prog laidAll w) (λ_ _ _ hh h=>h.of_heap hh) own started (by kernel_rfl) Tryz.func4
  (ChangeSpec.witness_shaped (enc:=enc) (C:=Tryz.checked) (os:=os) (X:=λw _=>laidMetH Tryz.prog laidAll w) false (World.laidAll Tryz.prog os laidAll) #[.slice none 0 0,.int .i64 0,Str [],Str []] 8 (World.laidAll_os _ _ _)
   (World.shaped_of_ZipB (by kernel_rfl) (by kernel_rfl)) (by kernel_rfl) (by kernel_rfl) (by kernel_rfl)
   (by rw [MakeChecks.laidMetH_plain _ _ _ (by kernel_rfl)];exact laidMet_laidAll _ (by kernel_rfl) (by kernel_rfl))) ?_
 intro W base args ds gs before hval hW _ _ hL _;exact contract H enc W base args ds gs before hval hW hL
theorem holds:Rows.IndexNewSaid:=
 OpenClaim.holds_of_wide 4 Tryz.f4 rfl rfl rfl rfl rfl rfl rfl ⟨rfl,rfl,rfl,rfl,rfl⟩ rfl rfl rfl rfl rfl (by kernel_rfl) Tryz.func4 (by kernel_rfl)
  (of_decide_eq_true (by kernel_rfl)) (by unfold Func.isWrapper;first | (rw [if_pos (by decide +kernel)];kernel_rfl) | (rw [if_neg (by decide +kernel)];exact ⟨rfl,rfl⟩))
  (λos started H enc _=>lifted os started H enc)
set_option maxRecDepth 100000 in
theorem cardHolds:Rows.IndexNewCardSaid:=
 Claim7.holds_tied_plain_at .later [] [.data] true (true, "e4cda57abafc2d3a85e61e8db845b5e1a461edb7b86ed2294215204bedd94d58") false holds (fun _ h => by cases h) (by kernel_rfl) (fun _ h => by cases h) indexNew_row_tie rfl ⟨rfl, rfl⟩ (by kernel_rfl) rfl
  (λf fn hf hfn=>by
   obtain rfl : f = 4 := Option.some.inj ((show Tryz.prog.funcNamed "limnograph/limnographlaw35.IndexNew" = some 4 by kernel_rfl).symm.trans hf) |>.symm
   obtain rfl:fn=Tryz.f4:=(Option.some.inj (Tryz.func4.symm.trans hfn)).symm
   exact ⟨by kernel_rfl,λj t ht=>by
    rw [Tryz.params4] at ht
    have hm:t∈[22,3,9,9]:=by simpa using Array.mem_of_getElem? ht
    have hall:([22,3,9,9].all λu=>!Tryz.prog.wantsStandIn u)=true:=by kernel_rfl
    exact (show Tryz.prog.wantsStandIn t=false by simpa using List.all_eq_true.1 hall t hm)⟩)
  (by kernel_rfl)
end indexNew
end Go.Proofs.YtpcpfjpcfcbopaaGreatDoor
