import Derived.Test.YthjhejgjcdajdaaGreatDoorVE2
import Derived.Test.YthjhejgjcdajdaaGreatDoorSE4
import Derived.Test.YthjhejgjcdajdaaGreatDoorTie
import Derived.MakeChecks
set_option maxRecDepth 100000
set_option linter.unusedVariables false
set_option linter.unusedSimpArgs false
namespace Go.Proofs.YthjhejgjcdajdaaGreatDoor
open Go Go.RowKit Go.Wk Go.WideShapes Go.ChangeShapes
abbrev laidAll : List (String × DataW Unit) := [("math/bits.deBruijn64tab", Rows.laid_math_bits_deBruijn64tab), ("limnograph/xor.none", Rows.laid_limnograph_xor_none)]
theorem zXs {W:World} (h:laidMetH Tryz.prog laidAll W):(rdR 1 0 gl1).H All W∧(rdR 3 0 gl3).H All W:=by
 rw [MakeChecks.laidMetH_plain _ _ _ (by kernel_rfl)] at h;obtain ⟨ps,⟨g,t,cs,fuel,p,q,hg,ht,hv,hd,⟨g2,t2,cs2,fuel2,p2,q2,hg2,ht2,hv2,hd2,_,_⟩,_⟩,_,_⟩:=h
 obtain rfl := Option.some.inj ((show Tryz.prog.globalNamed "math/bits.deBruijn64tab" = some 3 by kernel_rfl).symm.trans hg)
 obtain rfl:=Option.some.inj ((show (Tryz.prog.globals[3]?).map (·.type)=some 270 by kernel_rfl).symm.trans ht)
 obtain rfl := Option.some.inj ((show Tryz.prog.globalNamed "limnograph/xor.none" = some 1 by kernel_rfl).symm.trans hg2)
 obtain rfl:=Option.some.inj ((show (Tryz.prog.globals[1]?).map (·.type)=some 188 by kernel_rfl).symm.trans ht2);refine ⟨⟨λ_=>trivial,?_⟩,λ_=>trivial,?_⟩
 ·obtain ⟨xs,n',_,ex,hl,hxl,hf⟩:=DataW.trod_struct Tryz.underlying188 hd2
  have c3:Tryz.prog.cellsOf 3=1:=by kernel_rfl
  have c188:Tryz.prog.cellsOf 188=2:=by kernel_rfl
  rw [c188] at hl;have f0:DataW.trod (λ_=>()) Tryz.prog W 0 (λ_=>true) false n' 3 ((cs2.toList.drop 0).take (Tryz.prog.cellsOf 3))=xs[0]?:=hf 0 _ rfl;have f1:DataW.trod (λ_=>()) Tryz.prog W 0 (λ_=>true) false n' 3 ((cs2.toList.drop 1).take (Tryz.prog.cellsOf 3))=xs[1]?:=hf 1 _ rfl
  obtain ⟨a,b,rfl⟩:∃ a b,xs=[a,b]:=by
   match xs,hxl with
   | [a,b],_=>exact ⟨a,b,rfl⟩
  obtain ⟨z0,q0,d0,_⟩:=DataW.trod_int Tryz.underlying3 f0;obtain ⟨z1,q1,d1,_⟩:=DataW.trod_int Tryz.underlying3 f1;subst d0 d1;have ex':=DataW.agg.inj (Prod.mk.inj ex).1;simp only [List.map_cons,List.map_nil,List.cons.injEq,DataW.lit.injEq,Lit.int.injEq,true_and,and_true] at ex';obtain ⟨rfl,rfl⟩:=ex';intro r v hr;rw [Nat.zero_add,World.var?_cell hg2 hv2 r];rw [c3] at q0 q1
  have g0:cs2.toList[0]?=some (.int .i64 0):=by
   have h0:((cs2.toList.drop 0).take 1)[0]?=some (.int .i64 0):=by rw [q0];rfl
   simpa using h0
  have g1:cs2.toList[1]?=some (.int .i64 0):=by
   have h0:((cs2.toList.drop 1).take 1)[0]?=some (.int .i64 0):=by rw [q1];rfl
   simpa using h0
  match r,hr with
  | 0,hr=>rw [← Option.some.inj hr];simpa using g0
  | 1,hr=>rw [← Option.some.inj hr];simpa using g1
 ·obtain ⟨xs,m,_,ex,_,hl,hel⟩:=DataW.trod_array Tryz.underlying270 hd
  intro r v hr
  have hlt:r<64:=by
   have:=(List.getElem?_eq_some_iff.1 hr).1
   have e:gl3.length=64:=by kernel_rfl
   omega
  have c5:Tryz.prog.cellsOf 5=1:=by kernel_rfl
  have hE:=hel r hlt;rw [c5,Nat.mul_one,List.getElem?_eq_getElem (by omega)] at hE;obtain ⟨z,e1,e2,_⟩:=DataW.trod_int Tryz.underlying5 hE
  have e3:(xs.map (·.1))=gt3.map λn=>.lit (.int .u8 ((n.toNat:Nat):Int)):=(DataW.agg.inj (Prod.mk.inj ex).1).symm
  have e4:(xs.map (·.1))[r]?=(gt3.map λn=>(DataW.lit (.int .u8 ((n.toNat:Nat):Int)):DataW Unit))[r]?:=by rw [e3]
  have hg3:gl3=gt3.map λx=>u8v x:=rfl
  rw [hg3,List.getElem?_map] at hr;obtain ⟨y,hy,rfl⟩:=Option.map_eq_some_iff.1 hr;rw [List.getElem?_map,List.getElem?_map,List.getElem?_eq_getElem (by omega:r<xs.length),e2,hy] at e4
  have hz:z=((y.toNat:Nat):Int):=by
   simpa only [Option.map_some,Option.some.injEq,DataW.lit.injEq,Lit.int.injEq,true_and] using e4
  rw [Nat.zero_add,World.var?_cell hg hv r]
  have h0:((cs.toList.drop r).take 1)[0]?=some (u8v y):=by rw [e1,hz];rfl
  simpa using h0
end Go.Proofs.YthjhejgjcdajdaaGreatDoor
