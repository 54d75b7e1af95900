import Derived.Test.YtpcpfjpcfcbopaaGreatDoorVC2
import Derived.Test.YtpcpfjpcfcbopaaGreatDoorSC3
import Derived.Test.YtpcpfjpcfcbopaaGreatDoorTie
import Derived.MakeChecks
set_option maxRecDepth 100000
namespace Go.Proofs.YtpcpfjpcfcbopaaGreatDoor
open Go Go.RowKit Go.Wk Go.WideShapes Go.ChangeShapes
abbrev laidAll : List (String × DataW Unit) := [("limnograph/glob.none", Rows.laid_limnograph_glob_none)]
theorem laid_cells {W:World} (h:laidMetH Tryz.prog laidAll W):(rdR 0 0 gl0).H All W:=by
 rw [MakeChecks.laidMetH_plain _ _ _ (by kernel_rfl)] at h;obtain ⟨ps,⟨g2,t2,cs2,fuel2,p2,q2,hg2,ht2,hv2,hd2,_,_⟩,_,_⟩:=h
 obtain rfl := Option.some.inj ((show Tryz.prog.globalNamed "limnograph/glob.none" = some 0 by kernel_rfl).symm.trans hg2)
 obtain rfl:=Option.some.inj ((show (Tryz.prog.globals[0]?).map (·.type)=some 111 by kernel_rfl).symm.trans ht2);refine ⟨λ_=>trivial,?_⟩;obtain ⟨xs,n',_,ex,hl,hxl,hf⟩:=DataW.trod_struct Tryz.underlying111 hd2
 have ca:Tryz.prog.cellsOf 3=1:=by kernel_rfl
 have cb:Tryz.prog.cellsOf 28=1:=by kernel_rfl
 have ct:Tryz.prog.cellsOf 111=2:=by kernel_rfl
 rw [ct] at hl;have f0:DataW.trod (λ_=>()) Tryz.prog W 0 (λ_=>true) false n' 3 ((cs2.toList.drop 0).take (Tryz.prog.cellsOf 3))=xs[0]?:=hf 0 _ rfl;have f1:DataW.trod (λ_=>()) Tryz.prog W 0 (λ_=>true) false n' 28 ((cs2.toList.drop 1).take (Tryz.prog.cellsOf 28))=xs[1]?:=hf 1 _ rfl
 obtain ⟨a,b,rfl⟩:∃ a b,xs=[a,b]:=by
  match xs,hxl with
  | [a,b],_=>exact ⟨a,b,rfl⟩
 obtain ⟨z0,q0,d0,_⟩:=DataW.trod_int Tryz.underlying3 f0;obtain ⟨z1,q1,d1,_⟩:=DataW.trod_int Tryz.underlying28 f1;subst d0 d1;have ex':=DataW.agg.inj (Prod.mk.inj ex).1;simp only [List.map_cons,List.map_nil,List.cons.injEq,DataW.lit.injEq,Lit.int.injEq,true_and,and_true] at ex';obtain ⟨rfl,rfl⟩:=ex';intro r v hr;rw [Nat.zero_add,World.var?_cell hg2 hv2 r];rw [ca] at q0;rw [cb] at q1
 have g0:cs2.toList[0]?=some (.int .i64 0):=by
  have h0:((cs2.toList.drop 0).take 1)[0]?=some (.int .i64 0):=by rw [q0];rfl
  simpa using h0
 have g1:cs2.toList[1]?=some (.int .i64 0):=by
  have h0:((cs2.toList.drop 1).take 1)[0]?=some (.int .i64 0):=by rw [q1];rfl
  simpa using h0
 match r,hr with
 | 0,hr=>rw [← Option.some.inj hr];simpa using g0
 | 1,hr=>rw [← Option.some.inj hr];simpa using g1
end Go.Proofs.YtpcpfjpcfcbopaaGreatDoor
