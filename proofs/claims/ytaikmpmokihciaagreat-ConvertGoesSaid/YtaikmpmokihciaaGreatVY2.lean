import Derived.Test.YtaikmpmokihciaaGreatVY1
import Derived.Lib.AppendStr
import Derived.Lib.UnsafeStr
import Derived.Lib.Builder
import Derived.Lib.Bytealg
import Derived.Laws.Externs
import Derived.StillTail
import Derived.Sort.KeysCollected
import Derived.Maps.Own
import Derived.Shelf.SlIter.Nil
import Derived.Deep.AppendSrc
import Derived.Sort.Walk0
import Derived.Test.YtaikmpmokihciaaGreatRows
import Derived.WalkKit
import Derived.ProofKit
import Derived.OpenShut
import Derived.JoinedCond
import Derived.Carry
import Derived.Below
import Derived.ChangeSame
import Derived.Deep.Slices
import Derived.Deep.Fields
set_option linter.unusedVariables false
set_option linter.unusedSimpArgs false
namespace Go.Wk
open Go Go.RowKit
section
variable {P:Program} {f:FuncId} {n:Nat} {R:Ending→World→Prop} {k:List Item} {e:Env} {w:World}
variable {ops:Array Oper} {i:Nat} {rest:List Nat} {d:Nat} {dst:Option Nat} {ty:TypeId} {pos:String} {af:Array Edge} {g:Option (Nat×Bool)}
theorem V.extern {gg : FuncId} {fn : Func} {en : Array Value → Sem Value} {xs : List Operand} {vs : List Value} {ts : Array TypeId} {v : Value} (hf : P.funcs[gg]? = some fn) (hname : (fn.name == "runtime.NumGoroutine") = false) (hb : fn.body.isNone = true) (hn : Extern.findNext fn = none) (he : Extern.find fn = some en)
 (hx:evs e xs=some vs) (hr:(en vs.toArray).run P w=.ok v w):OpV P n e w ⟨dst,.call { callee:=.value (.func gg),args:=xs.toArray,argTypes:=ts },ty,pos,af,g⟩ v w:=λa hfit=>by
 simp [execOp,resolve,Act.eval,Deferred.ofValue,invoke,evs_map hfit hx,run_callFunc_extern hf hname hb hn he,hr]
theorem V.indexByte {gg : FuncId} {fn : Func} {x y : Operand} {ts : Array TypeId} {s : List UInt8} {c : UInt8} (hf : P.funcs[gg]? = some fn) (hname : (fn.name == "runtime.NumGoroutine") = false) (hb : fn.body.isNone = true) (hn : Extern.findNext fn = none) (he : Extern.find fn = some Extern.BytealgIndexByte.indexByte)
 (hx:evs e [x,y]=some [Str s,.int .u8 c.toNat]):OpV P n e w ⟨dst,.call { callee:=.value (.func gg),args:=#[x,y],argTypes:=ts },ty,pos,af,g⟩ (.int .i64 (Lib.indexByte s c)) w:=by
 have h:=Lib.run_indexByteString (P:=P) (⟨s.toArray⟩:ByteArray) (c.toNat:Int) w
 have hc:(c.toNat:Int).toNat.toUInt8=c:=by simp
 rw [hc] at h;exact V.extern (xs:=[x,y]) hf hname hb hn he hx h
theorem V.noEsc {gg : FuncId} {fn : Func} {x : Operand} {ts : Array TypeId} {v : Value} (hf : P.funcs[gg]? = some fn) (hname : (fn.name == "runtime.NumGoroutine") = false) (hb : fn.body.isNone = true) (hn : Extern.findNext fn = none) (he : Extern.find fn = some Extern.AbiNoEscape.same)
 (hx:ev e x=some v):OpV P n e w ⟨dst,.call { callee:=.value (.func gg),args:=#[x],argTypes:=ts },ty,pos,af,g⟩ v w:=
 V.extern (xs:=[x]) hf hname hb hn he (by simp [evs,hx]) (Lib.run_noEscape w v)
theorem V.neqSame {x y:Operand} {a:Addr} {tp te u:TypeId} {j:TypeInfo} (hp:P.underlying tp=some (.pointer te)) (hte:P.info? te=some j) (hx:ev e x=some (.pointer (some a))) (hy:ev e y=some (.pointer (some a))) :
 OpV P n e w ⟨dst,.binOp .neq tp x y u,ty,pos,af,g⟩ (.bool false) w:=λc hf=>by
 simp [execOp,ev_eval hf hx,ev_eval hf hy,eqGuard_at_pointer,Lib.run_neq_ptr_same w a hp hte]
theorem V.toUns {x:Operand} {src dst' t t':TypeId} {j:TypeInfo} {b:Nat} {cs:List Value} (hs:P.underlying src=some (.pointer t)) (hd:P.underlying dst'=some .unsafePointer) (ht:P.info? t=some j) (hj:j.size≠0) (hx:ev e x=some (.pointer (some ⟨b,0,none⟩))) (hB:Blk w b t' cs) (hc:0<cs.length) :
 OpV P n e w ⟨dst,.convert src dst' x,ty,pos,af,g⟩ (.pointer (some ⟨b,0,none⟩)) w:=λa hf=>by
 have hsh:w.shape? b=some (t',cs.length):=by unfold Blk at hB;simp [World.shape?,hB]
 simp [execOp,ev_eval hf hx,Lib.run_to_unsafe w (P:=P) ⟨b,0,none⟩ hs hd ht hj hsh (by simpa using hc)]
theorem V.fromUns {x:Operand} {src dst' u t':TypeId} {j:TypeInfo} {b:Nat} {cs:List Value} (hs:P.underlying src=some .unsafePointer) (hd:P.underlying dst'=some (.pointer u)) (hu:P.info? u=some j) (hx:ev e x=some (.pointer (some ⟨b,0,none⟩))) (hB:Blk w b t' cs) (hl:liesAt P P.depth t' (cs.length/P.cellsOf t') 0 u 1=true) :
 OpV P n e w ⟨dst,.convert src dst' x,ty,pos,af,g⟩ (.pointer (some ⟨b,0,none⟩)) w:=λa hf=>by
 have hsh:w.shape? b=some (t',cs.length):=by unfold Blk at hB;simp [World.shape?,hB]
 simp [execOp,ev_eval hf hx,Lib.run_from_unsafe w (P:=P) ⟨b,0,none⟩ hs hd hu hsh hl]
end
def bldR (T el b:Nat) (A:Option Addr) (c:Nat) (l:List UInt8):Rs where
 F:=λx=>x=b∨ob A x
 H:=λ_ w=>∃ p:Option Addr,(p=none∨p=some ⟨b,0,none⟩)∧Blk w b T [.pointer p,.slice A l.length c]∧Own 0 No w el A c byteR l∧¬ob A b∧(l=[]→A=none)
 keep:=fun {_ _ w w'} ⟨p,hp,hB,hO,hn⟩ hF _ _=>by
  refine ⟨p,hp,?_,?_,hn⟩
  ·have:=hF b (.inl rfl) hB.lt;unfold Blk at hB ⊢;rw [this];exact hB
  ·refine ⟨hO.1,hO.2.1,?_⟩
   rcases hO.2.2 with h0|⟨g,cs,vss,rfl,h1,h2,h3,h4,h5,h6⟩
   ·exact .inl h0
   ·refine .inr ⟨g,cs,vss,rfl,h1,?_,h3,h4,λk vs x hv hx=>byte_flat _ _ _ _ _ _ (h5 k vs x hv hx),h6⟩
    have:=hF g (.inr rfl) h2.lt;unfold Blk at h2 ⊢;rw [this];exact h2
 lt:=λ⟨p,hp,hB,hO,hn⟩ x hx=>by
  rcases hx with rfl|hx
  ·exact hB.lt
  ·exact (hO.base x hx).2
theorem Hp.toBld {Z0 S:Nat→Prop} {w0 w:World} {L:List Rs} {T el b:Nat} (hm:Hp Z0 S w0 w L) (i:Nat) (hi:L[i]?=some (boxR b T [.pointer none,.slice none 0 0])):Hp Z0 S w0 w (L.set i (bldR T el b none 0 [])):=
 hm.upd i _ hi (Fr.refl _ _) (λx hx=>by rcases hx with rfl | hx;exact .inl rfl;cases hx) λZ _ _=>⟨none,.inl rfl,hm.get i hi,Own.nil _ _ _ _ _,(λh=>by cases h),λ_=>rfl⟩
theorem appS_run {P:Program} {w:World} {t u el:TypeId} {A:Option Addr} {c:Nat} {xs s:List UInt8} (ht:P.underlying t=some (.slice el)) (hu:P.underlying u=some .string) (hel:ElOk P el 1 1)
 (hO:Own 0 No w el A c byteR xs) (hlen:xs.length+s.length≤1073741824) (ty:TypeId) :
 ∃ A2 c2 w',(Builtin.append_ #[t,u] ty #[.slice A xs.length c,Str s]).run P w=.ok (.slice A2 (xs.length+s.length) c2) w'∧Fr (λb=>ob A b) w w'∧(∀ b,ob A2 b→ob A b∨b=w.heap.size)∧Own 0 No w' el A2 c2 byteR (xs++s)∧(xs++s=[]→A=none→A2=none):=by
 obtain ⟨inf,z,hi,hz,hsz,hbt,hzs,hpos⟩:=hel
 have hss:(⟨s.toArray⟩:ByteArray).size=s.length:=by simp [ByteArray.size]
 have hsc:Lib.strCells ⟨s.toArray⟩=s.map I8:=rfl;have hb1:byteR.sz=1:=rfl
 have hfl:∀ m:List UInt8,(m.map (λc=>[I8 c])).flatten=m.map I8:=by
  intro m
  induction m with
  | nil=>rfl
  | cons a r ih=>simp only [List.map_cons,List.flatten_cons,ih];rfl
 have hrel:∀ (m:List UInt8) (k:Nat) (vs:List Value) (x:UInt8),(m.map (λc=>[I8 c]))[k]?=some vs→m[k]?=some x→vs=[I8 x]:=by
  intro m k vs x hv hx;rw [List.getElem?_map,hx] at hv
  cases hv;rfl
 have vssmap:∀ {w:World} {vss:List (List Value)} {ys:List UInt8},vss.length=ys.length→(∀ (k:Nat) (vs:List Value) (x:UInt8),vss[k]?=some vs→ys[k]?=some x→byteR.rel No w vs x)→vss.flatten=ys.map I8:=by
  intro w vss ys hl h
  have:vss=ys.map (λc=>[I8 c]):=by
   apply List.ext_getElem?
   intro k
   rcases Nat.lt_or_ge k ys.length with hk|hk
   ·have hk':k<vss.length:=by omega
    rw [List.getElem?_map,List.getElem?_eq_getElem hk',List.getElem?_eq_getElem hk];obtain ⟨h1,_⟩:=h k vss[k] ys[k] (List.getElem?_eq_getElem hk') (List.getElem?_eq_getElem hk);rw [h1];rfl
   ·rw [List.getElem?_eq_none (by omega),List.getElem?_eq_none (by simpa using hk)]
  rw [this,hfl]
 have made:∀ (old:Nat),old<xs.length+s.length →
  let w2:=w.drew.alloc (.cells ((xs.map I8).toArray++(s.map I8).toArray++Builtin.zeroCells z.cells (grownCap w (xs.length+s.length) old el-(xs.length+s.length))) el)
  Ext w w2∧Own 0 No w2 el (some ⟨w.heap.size,0,none⟩) (grownCap w (xs.length+s.length) old el) byteR (xs++s):=by
  intro old ho;have hge:=grownCap_ge w (xs.length+s.length) old el;have hcm:grownCap w (xs.length+s.length) old el≤maxLen:=grownCap_le_maxLen w (xs.length+s.length) old el (by simp only [maxLen];omega);refine ⟨(Ext.drew w).trans (Ext.alloc _ _),by rw [List.length_append];exact hge,hcm,.inr ⟨w.heap.size,(xs++s).map I8++(Builtin.zeroCells z.cells (grownCap w (xs.length+s.length) old el-(xs.length+s.length))).toList,(xs++s).map (λc=>[I8 c]),rfl,Nat.zero_le _,?_,?_,by simp,λk vs x hv hx=>⟨hrel _ k vs x hv hx,trivial⟩,?_⟩⟩
  ·have:=heap_alloc_new w.drew (.cells ((xs.map I8).toArray++(s.map I8).toArray++Builtin.zeroCells z.cells (grownCap w (xs.length+s.length) old el-(xs.length+s.length))) el)
   unfold Blk
   have e1:(xs.map I8).toArray++(s.map I8).toArray++Builtin.zeroCells z.cells (grownCap w (xs.length+s.length) old el-(xs.length+s.length))=((xs++s).map I8++(Builtin.zeroCells z.cells (grownCap w (xs.length+s.length) old el-(xs.length+s.length))).toList).toArray:=by
    apply Array.ext';simp
   rw [← e1];exact this
  ·simp only [hb1,List.length_append,List.length_map,Array.length_toList,size_zeroCells,hzs];omega
  ·rw [hfl,hb1,Nat.mul_one]
   have:(xs++s).length=((xs++s).map I8).length:=by simp
   rw [this,List.take_left]
 rcases hO.2.2 with ⟨rfl,hc0⟩|⟨gb,cs,vss,rfl,hg1,hg2,hg3,hg4,hg5,hg6⟩
 ·have hx:xs=[]:=List.eq_nil_of_length_eq_zero (by have:=hO.1;omega)
  subst hx hc0
  by_cases hs:s=[]
  ·subst hs
   have hf:=Lib.run_firstCells_string (P:=P) (w:=w) inf.size ⟨([]:List UInt8).toArray⟩;refine ⟨none,0,w,?_,Fr.refl _ _,λb hb=>.inl hb,Own.nil _ _ _ _ _,λ_ _=>rfl⟩;have h0:Lib.strCells ⟨([]:List UInt8).toArray⟩=[]:=rfl;have hz0:(⟨([]:List UInt8).toArray⟩:ByteArray).size=0:=rfl;rw [h0,hz0] at hf;have hf':(Builtin.firstCells inf.size 0 (.string ByteArray.empty)).run P w=.ok #[] w:=hf;show (Builtin.append_ #[t,u] ty #[.slice none 0 0,.string ByteArray.empty]).run P w=_;simp [Builtin.append_,run_underlying ht,run_underlying hu,sizeOf,typeInfo,hi,Builtin.lenOf,hf']
  ·have hsp:0<s.length:=List.length_pos_iff.2 hs
   have hr:=run_append_nil_string (P:=P) w t u ty el inf z ht hu hi hz ⟨s.toArray⟩ (by rw [hss];exact hsp) (by rw [hss];omega) (by rw [hss,hbt];omega);obtain ⟨hE,hown⟩:=made 0 (by simpa using hsp);simp only [List.length_nil,Nat.zero_add,List.nil_append,List.map_nil] at hE hown hr ⊢
   have e2:(⟨s.toArray⟩:ByteArray).data.map (λb=>Value.int .u8 b.toNat)=([]:List Value).toArray++(s.map I8).toArray:=by
    apply Array.ext';simp
   rw [e2,hss] at hr;exact ⟨_,_,_,hr,Ext.fr hE,λx hx=>.inr (by cases hx;rfl),hown,λh=>(hs h).elim⟩
 ·have hxs:=vssmap hg4 hg5
  rw [hxs,hb1,Nat.mul_one] at hg6
  by_cases hroom:xs.length+s.length≤c
  ·have hcl:c≤cs.length:=by rw [hb1,Nat.mul_one] at hg3;exact hg3
   have hr:=Lib.run_append_room_string (P:=P) (w:=w) t u ty el inf ht hu hi hsz gb xs.length c cs.toArray hg2 ⟨s.toArray⟩ (by rw [hss];exact hroom) (by rw [hss];simp;omega);rw [hss,hsc] at hr;refine ⟨_,_,_,hr,⟨rfl,rfl,rfl,by simp,λx hx hn=>setRow_other w gb x _ (λe=>hn (by rw [e];rfl))⟩,λx hx=>.inl hx,⟨by rw [List.length_append];exact hroom,hO.2.1,.inr ⟨gb,_,(xs++s).map (λc=>[I8 c]),rfl,hg1,setRow_heap w gb _ _ el _ hg2,?_,by simp,λk vs x hv hx=>⟨hrel _ k vs x hv hx,trivial⟩,?_⟩⟩,λh1 h2=>by cases h2⟩
   ·simp only [hb1,List.toList_toArray,List.length_append,List.length_take,List.length_drop,List.length_map];omega
   ·simp only [List.toList_toArray]
    rw [hfl,hb1,Nat.mul_one,hg6]
    have:(xs++s).length=(xs.map I8++s.map I8).length:=by simp
    rw [this,List.take_left,List.map_append]
  ·have holds:∀ j u,(xs.map I8)[j]?=some u→w.cell? ((⟨gb,0,none⟩:Addr).add j)=some u:=by
    intro j u hj;rw [← hg6,List.getElem?_take] at hj
    split at hj
    ·rw [Addr.add_none,Nat.zero_add,hg2.cell];exact hj
    ·cases hj
   have hr:=Lib.run_append_grow_string (P:=P) (w:=w) t u ty el inf z ht hu hi hz ⟨gb,0,none⟩ xs.length c (xs.map I8) (by rw [hsz];simp) holds ⟨s.toArray⟩ (by rw [hss];omega) (by rw [hss];omega) (by rw [hss,hbt];exact growslice_fits (by omega) (by omega));rw [hss,hsc] at hr;obtain ⟨hE,hown⟩:=made c (by omega);exact ⟨_,_,_,hr,Ext.fr hE,λx hx=>.inr (by cases hx;rfl),hown,λh1 h2=>by cases h2⟩
section
variable {P:Program} {f:FuncId} {n:Nat} {R:Ending→World→Prop} {k:List Item} {e:Env} {w:World}
variable {ops:Array Oper} {i:Nat} {rest:List Nat} {d:Nat} {dst:Option Nat} {ty:TypeId} {pos:String} {af:Array Edge} {g:Option (Nat×Bool)}
theorem Rn.appS {t u el:TypeId} {x y:Operand} {A:Option Addr} {c:Nat} {l s:List UInt8} (ho:ops[i]?=some ⟨some d,.call { callee:=.builtin .append,args:=#[x,y],argTypes:=#[t,u] },ty,pos,af,g⟩) (hg:gok e ops g=true) (hn:Nat.blt d n=true)
 (ht:P.underlying t=some (.slice el)) (hu:P.underlying u=some .string) (hel:ElOk P el 1 1) (hx:ev e x=some (.slice A l.length c)) (hy:ev e y=some (Str s)) (hO:Own 0 No w el A c byteR l) (hle:l.length+s.length≤1073741824)
 (h:∀ A2 c2 w',Own 0 No w' el A2 c2 byteR (l++s)→Fr (λb=>ob A b) w w'→(∀ b,ob A2 b→ob A b∨b=w.heap.size)→(l++s=[]→A=none→A2=none)→Rn P f n R (.inRegion ops rest::k) ((d,.slice A2 (l++s).length c2)::e) w'):Rn P f n R (.inRegion ops (i::rest)::k) e w:=by
 obtain ⟨A2,c2,w',hr,hF,hob,hown,hnil⟩:=appS_run (P:=P) ht hu hel hO hle ty;refine Rn.opV (v:=.slice A2 (l.length+s.length) c2) (w':=w') ho hg rfl hn (λa hf=>by simp [execOp,resolve,invoke,builtin,ev_eval hf hx,ev_eval hf hy,hr]) ?_;have:=h A2 c2 w' hown hF hob hnil;rw [List.length_append] at this;exact this
theorem uData {x:Operand} {A:Option Addr} {c:Nat} {l:List UInt8} {t el:TypeId} (hx:ev e x=some (.slice A l.length c)) (hO:Own 0 No w el A c byteR l) (hnil:l=[]→A=none):∀ w1:World,OpV P n e w1 ⟨dst,.call { callee:=.builtin .unsafeSliceData,args:=#[x],argTypes:=#[t] },ty,pos,af,g⟩ (.pointer A) w1:=by
 intro w1 a hf
 cases A with
 | none=>simp [execOp,resolve,invoke,builtin,ev_eval hf hx,Lib.run_unsafeSliceData_nil]
 | some q=>
  have hne:l≠[]:=λhl=>by have:=hnil hl;cases this
  have hlp:=List.length_pos_iff.2 hne
  have hc:c≠0:=by have:=hO.1;omega
  simp [execOp,resolve,invoke,builtin,ev_eval hf hx,Lib.run_unsafeSliceData_row (P:=P) w1 #[t] ty q l.length c hc]
theorem uStr_run {A:Option Addr} {c:Nat} {l:List UInt8} {el pt it:TypeId} (hp:P.underlying pt=some (.pointer el)) (hc:P.cellsOf el=1) (hO:Own 0 No w el A c byteR l) (hnil:l=[]→A=none) :
 ∃ w',(Builtin.unsafeString_ #[pt,it] ty #[.pointer A,.int .i64 l.length]).run P w=.ok (Str l) w'∧Fr (λx=>ob A x) w w':=by
 by_cases hl:l=[]
 ·subst hl
  exact ⟨w,Lib.run_unsafeString_none (P:=P) w pt it ty A,Fr.refl _ _⟩
 ·rcases hO.2.2 with ⟨rfl,h⟩ | ⟨gb,cs,vss,rfl,h1,h2,h3,h4,h5,h6⟩
  ·exact (hl (List.eq_nil_of_length_eq_zero (by have:=hO.1;omega))).elim
  ·have hsh:w.shape? gb=some (el,cs.length):=by unfold Blk at h2;simp [World.shape?,h2]
   have hb1:byteR.sz=1:=rfl
   have hcell:∀ j x,l[j]?=some x→w.cell? ((⟨gb,0,none⟩:Addr).add j)=some (.int .u8 x.toNat):=λj x hj=>by
    have hjv:j<vss.length:=by rw [h4];exact lt_of_get hj
    obtain ⟨h7,_⟩:=h5 j vss[j] x (List.getElem?_eq_getElem hjv) hj;have h8:=flatten_get byteR.sz vss (lens_of h4 h5) j _ (List.getElem?_eq_getElem hjv) 0 (.int .u8 x.toNat) (by rw [h7];rfl);rw [hb1,Nat.mul_one,Nat.add_zero,← h6,List.getElem?_take] at h8
    split at h8
    ·rw [Addr.add_none,Nat.zero_add,h2.cell];exact h8
    ·cases h8
   have hle:=hO.1;have hle2:=hO.2.1;have hm:maxLen=9223372036854775807:=rfl;refine ⟨_,Lib.run_unsafeString_row (P:=P) w pt it ty el hp hc gb cs.length hsh l hl (by rw [hb1,Nat.mul_one] at h3;omega) (by omega) hcell,?_⟩;refine ⟨by simp [World.freeze,hl],by simp [World.freeze,hl],by simp [World.freeze,hl],by simp [World.freeze,hl],λb hb hn=>?_⟩
   have hne:gb≠b:=λhh=>hn (by rw [hh];rfl)
   simp [World.freeze,hl,Array.getElem?_modify,hne]
end
end Go.Wk
namespace Go.Wk
open Go Go.RowKit
theorem Hp.end1 {Z0 S:Nat→Prop} {w0 w w':World} {r:Rs} (hm:Hp Z0 S w0 w [r]) (hf:Fr r.F w w'):Hp Z0 S w0 w' []:=
 ⟨hm.fr.trans' hf λx hx=>hm.nw 0 r rfl x hx,λi r h=>by simp at h,λi j a b _ h=>by simp at h,λi r h=>by simp at h⟩
section
variable {P:Program} {n:Nat} {e:Env} {w:World} {dst:Option Nat} {ty:TypeId} {pos:String} {af:Array Edge} {g:Option (Nat×Bool)}
theorem V.uStr {w':World} {v:Value} {x y:Operand} {A:Option Addr} {m:Int} {pt it:TypeId} (hr:(Builtin.unsafeString_ #[pt,it] ty #[.pointer A,.int .i64 m]).run P w=.ok v w') (hx:ev e x=some (.pointer A)) (hy:ev e y=some (.int .i64 m)) :
 OpV P n e w ⟨dst,.call { callee:=.builtin .unsafeString,args:=#[x,y],argTypes:=#[pt,it] },ty,pos,af,g⟩ v w':=λa hf=>by
 simp [execOp,resolve,invoke,builtin,ev_eval hf hx,ev_eval hf hy,hr]
end
theorem clone_get {α:Type} {Z:Nat→Prop} {w:World} {rep:Rep α} {xs:List α} {c:Nat} (h:(slR none c rep xs).H Z w):xs=[]:=h.2.2.nil_of
end Go.Wk
set_option linter.unusedVariables false
set_option linter.unusedSimpArgs false
namespace Go.Wk
open Go Go.RowKit
theorem W64_id {z:Int} (h0:-9223372036854775808≤z) (h1:z≤9223372036854775807):W64 z=z:=by
 unfold W64 IntKind.wrap;simp [IntKind.signed,IntKind.bits]
 split<;>omega
theorem idx_nat {α:Type} (l:List α) (k:Nat):idx l (k:Int)=l[k]?:=by unfold idx;simp
theorem idx_lt {α:Type} {l:List α} {i:Int} (h0:0≤i) (h1:i<l.length):∃ x,idx l i=some x:=by
 unfold idx;rw [if_pos h0];exact ⟨_,List.getElem?_eq_getElem (by omega)⟩
theorem idx_mid {α:Type} (p:List α) (x:α) (q:List α):idx (p++x::q) (p.length:Int)=some x:=by rw [idx_nat];simp
theorem idx_mid' {α:Type} {p:List α} {x:α} {q:List α} {i:Int} (h:i=p.length):idx (p++x::q) i=some x:=by rw [h];exact idx_mid p x q
theorem idx0 {α:Type} (x:α) (q:List α):idx (x::q) 0=some x:=rfl
theorem cut_mid {α:Type} (p q:List α):cutL (p++q) 0 (p.length:Int)=some p:=by
 unfold cutL;rw [if_pos (by simp;omega)];simp
theorem cut_end {α:Type} (p q:List α):cutL (p++q) (p.length:Int) ((p++q).length:Int)=some q:=by
 unfold cutL;rw [if_pos (by simp;omega)];congr 1;rw [Int.toNat_natCast,Int.toNat_natCast,List.take_length,List.drop_left]
theorem cut_some {α:Type} {l:List α} {a b:Int} (h0:0≤a) (h1:a≤b) (h2:b≤l.length):cutL l a b=some ((l.take b.toNat).drop a.toNat):=by unfold cutL;rw [if_pos ⟨h0,h1,h2⟩]
theorem app_some {α:Type} {l m:List α} (h:l.length+m.length≤1073741824):appL l m=some (l++m):=by unfold appL;rw [if_pos h]
theorem cat_some {a b:List UInt8} (h:a.length+b.length≤9223372036854775807):catS a b=some (a++b):=by unfold catS;rw [if_pos h]
theorem len_some {a:List UInt8} (h:a.length≤1073741824):lenS a=some a:=by unfold lenS;rw [if_pos h]
theorem bndS {α β:Type} (a:α) (f:α→Option β):(some a).bind f=f a:=Eq.trans rfl rfl
theorem fuelS (k:Nat) (h:k≤1000000):∃ m,fuel=m+k:=⟨fuel-k,(Nat.sub_add_cancel (Nat.le_trans h (by unfold fuel;exact Nat.le_of_ble_eq_true rfl))).symm⟩
theorem jn_eq {α β:Type} (F:α) (B:α→β):jn F B=B F:=Eq.trans rfl rfl
def scan {α S R:Type} (B:Nat→α→S→(S→Option R)→Option R) (J:S→Option R):Nat→List α→S→Option R
 | _,[],s=>J s
 | i,x::l,s=>B i x s λs'=>scan B J (i+1) l s'
theorem scan_eq {α S R:Type} (l:List α) (hl:l.length<4611686018427387904) (L:Nat→S→Int→Option R) (B:Nat→α→S→(S→Option R)→Option R) (J:S→Option R)
 (h:∀ n s (i:Nat),i≤l.length→L (n+1) s i=if h:i<l.length then B i l[i] s (λs'=>L n s' ((i+1:Nat):Int)) else J s) (s:S):L fuel s 0=scan B J 0 l s:=by
 have key:∀ n (q p:List α) s,p++q=l→q.length<n→L n s (p.length:Int)=scan B J p.length q s:=by
  intro n
  induction n with
  | zero=>intro q p s _ h;omega
  | succ n ih=>
   intro q p s hpq hn;rw [h n s p.length (by rw [← hpq];simp)]
   cases q with
   | nil=>rw [dif_neg (by rw [← hpq];simp)];rfl
   | cons x q=>
    rw [dif_pos (by rw [← hpq];simp)]
    have hx:l[p.length]'(by rw [← hpq];simp)=x:=by simp [← hpq]
    rw [hx];show _=B p.length x s _
    congr 1
    funext s'
    have:=ih q (p++[x]) s' (by simpa using hpq) (by simp at hn;omega);simpa using this
 exact key fuel l [] s rfl (by unfold fuel;omega)
end Go.Wk
namespace Go.Wk
theorem ite_neg {α:Type} {p q:Prop} [Decidable p] [Decidable q] {a b c d:α} (h:p↔¬q) (h1:¬q→a=d) (h2:q→b=c):(if p then a else b)=if q then c else d:=by
 by_cases hq:q
 ·rw [if_pos hq,if_neg (λhp=>(h.1 hp) hq)];exact h2 hq
 ·rw [if_neg hq,if_pos (h.2 hq)];exact h1 hq
def scanL {α S R:Type} (l:List α) (s:S) (B:Nat→α→S→(S→Option R)→Option R) (J:S→Option R):Option R:=scan B J 0 l s
theorem idx_at {α:Type} {l:List α} {i:Nat} (h:i<l.length):idx l (i:Int)=some l[i]:=by rw [idx_nat,List.getElem?_eq_getElem h]
theorem W64_up {i:Nat} (h:i+1≤9223372036854775807):W64 ((i:Int)+1)=((i+1:Nat):Int):=by rw [W64_id (by omega) (by omega)];rfl
theorem scanQ {α S R:Type} {l:List α} {B:Nat→α→S→(S→Option R)→Option R} {J:S→Option R} (hl:l.length<4611686018427387904) (L:Nat→S→Int→Option R) (s:S)
 (h:∀ (n:Nat) (t:S) (i:Nat),i≤l.length→L (n+1) t (i:Int)=if hh:i<l.length then B i l[i] t (λs'=>L n s' ((i+1:Nat):Int)) else J t:=by
  intro n t i hi;refine Eq.trans (b:=ite _ _ _) rfl ?_
  split
  ·rename_i h;rw [dif_pos (Int.ofNat_lt.1 h)];simp only [idx_at (Int.ofNat_lt.1 h),W64_up (show i+1≤9223372036854775807 by omega)]
  ·rename_i h;rw [dif_neg (λk=>h (Int.ofNat_lt.2 k))]):L fuel s 0=scanL l s B J:=by
 unfold scanL;exact scan_eq l hl L B J h s
section
variable {α S R:Type} {l:List α} {s:S} {B:Nat→α→S→(S→Option R)→Option R} {J:S→Option R}
theorem scan_cons {i:Nat} {x:α}:scan B J i (x::l) s=B i x s λs'=>scan B J (i+1) l s':=rfl
theorem scan_all (p:α→Bool) (N:Option R) (i:Nat) (h:∀ i' x k,i≤i'→x∈l→B i' x s k=if p x=true then k s else N):scan B J i l s=if l.all p=true then J s else N:=by
 induction l generalizing i with
 | nil=>rfl
 | cons x l ih=>
  rw [scan_cons,h i x _ (by omega) (by simp),ih (i+1) (λi' y k hi hy=>h i' y k (by omega) (by simp [hy])),List.all_cons]
  cases hp:p x<;>simp
theorem scanL_all (p:α→Bool) (N:Option R) (h:∀ i x k,x∈l→B i x s k=if p x=true then k s else N):scanL l s B J=if l.all p=true then J s else N:=
 scan_all p N 0 λi x k _ hx=>h i x k hx
theorem scanL_inv (I:List α→S→Prop) (F:List α→List α→S→Option R) (hI:I [] s) (h0:∀ s,I l s→J s=F l [] s)
 (h1:∀ p x q s k,p++x::q=l→I p s→(∀ s',I (p++[x]) s'→k s'=F (p++[x]) q s')→B p.length x s k=F p (x::q) s):scanL l s B J=F [] l s:=by
 have key:∀ (q p:List α) (s:S),p++q=l→I p s→scan B J p.length q s=F p q s:=by
  intro q
  induction q with
  | nil=>intro p s hp hI;rw [List.append_nil] at hp;subst hp;exact h0 s hI
  | cons x q ih=>
   intro p s hp hI
   refine h1 p x q s _ hp hI λs' hI'=>?_
   have:=ih (p++[x]) s' (by simpa using hp) hI';simpa using this
 exact key l [] s rfl hI
theorem scanL_pre (F:List α→List α→S→Option R) (h0:∀ s,J s=F l [] s)
 (h1:∀ p x q s k,p++x::q=l→(∀ s',k s'=F (p++[x]) q s')→B p.length x s k=F p (x::q) s):scanL l s B J=F [] l s:=
 scanL_inv (λ_ _=>True) F trivial (λs _=>h0 s) λp x q s k hp _ hk=>h1 p x q s k hp λs'=>hk s' trivial
theorem scanL_fold (f:S→α→S) (h:∀ i x s k,x∈l→B i x s k=k (f s x)):scanL l s B J=J (l.foldl f s):=by
 unfold scanL;generalize 0=i
 induction l generalizing s i with
 | nil=>rfl
 | cons x l ih=>rw [scan_cons,h i x s _ (by simp),List.foldl_cons];exact ih (λi y s k hy=>h i y s k (by simp [hy])) (i+1)
end
end Go.Wk
set_option linter.unusedVariables false
set_option linter.unusedSimpArgs false
namespace Go.Wk
open Go Go.RowKit
def Apart (L:List Rs):Prop:=∀ (i j:Nat) a b,i≠j→L[i]?=some a→L[j]?=some b→∀ x,a.F x→¬b.F x
def objR (F:Nat→Prop) (P:List Rs→Prop):Rs where
 F:=F
 H:=λZ w=>∃ L,P L∧(∀ x,F x↔LS L x)∧(∀ (i:Nat) r,L[i]?=some r→r.H Z w)∧Apart L
 keep:=λ⟨L,h1,h2,h3,h4⟩ hF hZ hZ'=>⟨L,h1,h2,λi r hi=>r.keep (h3 i r hi) (λb hb hlt=>hF b ((h2 b).2 ⟨i,r,hi,hb⟩) hlt) hZ hZ',h4⟩
 lt:=λ⟨L,_,h2,h3,_⟩ b hb=>by obtain ⟨i,r,hi,hr⟩:=(h2 b).1 hb;exact r.lt (h3 i r hi) b hr
section
variable {Z0 S:Nat→Prop} {w0 w:World} {L K M:List Rs} {P:List Rs→Prop} {F:Nat→Prop}
theorem erase_get {L:List Rs} {i:Nat} {j:Nat} {r:Rs} (h:(L.eraseIdx i)[j]?=some r):∃ j',j'≠i∧L[j']?=some r∧(j'=if j<i then j else j+1):=by
 rw [List.getElem?_eraseIdx] at h
 split at h
 ·rename_i hj;exact ⟨j,by omega,h,by rw [if_pos hj]⟩
 ·rename_i hj;exact ⟨j+1,by omega,h,by rw [if_neg hj]⟩
theorem Hp.unf (hm:Hp Z0 S w0 w L) (i:Nat) (hi:L[i]?=some (objR F P)):∃ M,P M∧Hp Z0 S w0 w (L.eraseIdx i++M):=by
 obtain ⟨M,hP,hF,hH,hA⟩:=hm.hs i _ hi
 have hz:∀ b,Zo Z0 S w0 L b→Zo Z0 S w0 (L.eraseIdx i++M) b:=λb ⟨h1,h2⟩=>⟨h1,λj r hj hr=>by
  rcases get_app hj with hj|⟨_,hj⟩
  ·obtain ⟨j',_,hj',_⟩:=erase_get hj;exact h2 j' r hj' hr
  ·exact h2 i _ hi ((hF b).2 ⟨_,r,hj,hr⟩)⟩
 refine ⟨M,hP,hm.fr,?_,?_,?_⟩
 ·intro j r hj
  rcases get_app hj with hj|⟨_,hj⟩
  ·obtain ⟨j',_,hj',_⟩:=erase_get hj
   exact r.keep (hm.hs j' r hj') (λ_ _ _=>rfl) (λ_ _ _=>rfl) λb hb _=>hz b hb
  ·exact r.keep (hH _ r hj) (λ_ _ _=>rfl) (λ_ _ _=>rfl) λb hb _=>hz b hb
 ·intro j l a b hjl hj hl x hx hb
  rcases get_app hj with hj'|⟨hj1,hj'⟩
  ·obtain ⟨j2,hj2,hj3,ej⟩:=erase_get hj'
   rcases get_app hl with hl'|⟨_,hl'⟩
   ·obtain ⟨l2,hl2,hl3,el⟩:=erase_get hl'
    refine hm.ap j2 l2 a b ?_ hj3 hl3 x hx hb;rw [ej,el]
    split<;>split<;>omega
   ·exact hm.ap j2 i a _ hj2 hj3 hi x hx ((hF x).2 ⟨_,b,hl',hb⟩)
  ·rcases get_app hl with hl' | ⟨hl1,hl'⟩
   ·obtain ⟨l2,hl2,hl3,_⟩:=erase_get hl'
    exact hm.ap l2 i b _ hl2 hl3 hi x hb ((hF x).2 ⟨_,a,hj',hx⟩)
   ·exact hA _ _ a b (by omega) hj' hl' x hx hb
 ·intro j r hj x hx
  rcases get_app hj with hj|⟨_,hj⟩
  ·obtain ⟨j',_,hj',_⟩:=erase_get hj;exact hm.nw j' r hj' x hx
  ·exact hm.nw i _ hi x ((hF x).2 ⟨_,r,hj,hx⟩)
theorem Hp.fold (P:List Rs→Prop) (hm:Hp Z0 S w0 w (K++M)) (hP:P M):∃ F,Hp Z0 S w0 w (K++[objR F P]):=by
 refine ⟨LS M,hm.fr,?_,?_,?_⟩
 ·have hz:∀ b,Zo Z0 S w0 (K++M) b→Zo Z0 S w0 (K++[objR (LS M) P]) b:=λb ⟨h1,h2⟩=>⟨h1,λj r hj hr=>by
   rcases get_app hj with hj|⟨_,hj⟩
   ·exact h2 j r (get_left hj) hr
   ·generalize j-K.length=q at hj
    cases q with
    | zero=>cases hj;obtain ⟨l,a,hl,ha⟩:=hr;exact h2 _ a (get_right hl) ha
    | succ q=>simp at hj⟩
  intro j r hj
  rcases get_app hj with hj|⟨_,hj⟩
  ·exact r.keep (hm.hs j r (get_left hj)) (λ_ _ _=>rfl) (λ_ _ _=>rfl) λb hb _=>hz b hb
  ·generalize j-K.length=q at hj
   cases q with
   | zero=>
    cases hj
    exact ⟨M,hP,λx=>Iff.rfl,λl a hl=>a.keep (hm.hs _ a (get_right hl)) (λ_ _ _=>rfl) (λ_ _ _=>rfl) λb hb _=>hz b hb,λl q a b hlq hl hq=>hm.ap _ _ a b (by omega) (get_right hl) (get_right hq)⟩
   | succ q=>simp at hj
 ·intro j l a b hjl hj hl x hx hb
  rcases get_app hj with hj'|⟨hj1,hj'⟩
  ·rcases get_app hl with hl' | ⟨hl1,hl'⟩
   ·exact hm.ap j l a b hjl (get_left hj') (get_left hl') x hx hb
   ·generalize l-K.length=q at hl'
    cases q with
    | zero=>cases hl';obtain ⟨q,c,hq,hc⟩:=hb;exact hm.ap j (K.length+q) a c (by have:=lt_of_get hj';omega) (get_left hj') (get_right hq) x hx hc
    | succ q=>simp at hl'
  ·rcases get_app hl with hl' | ⟨hl1,hl'⟩
   ·generalize j-K.length=q at hj'
    cases q with
    | zero=>cases hj';obtain ⟨q,c,hq,hc⟩:=hx;exact hm.ap (K.length+q) l c b (by have:=lt_of_get hl';omega) (get_right hq) (get_left hl') x hc hb
    | succ q=>simp at hj'
   ·have e1:j-K.length=0:=by
     rcases Nat.eq_zero_or_pos (j-K.length) with h|h
     ·exact h
     ·rw [List.getElem?_eq_none (by simp;omega)] at hj';cases hj'
    have e2:l-K.length=0:=by
     rcases Nat.eq_zero_or_pos (l-K.length) with h|h
     ·exact h
     ·rw [List.getElem?_eq_none (by simp;omega)] at hl';cases hl'
    omega
 ·intro j r hj x hx
  rcases get_app hj with hj|⟨_,hj⟩
  ·exact hm.nw j r (get_left hj) x hx
  ·generalize j-K.length=q at hj
   cases q with
   | zero=>cases hj;obtain ⟨l,a,hl,ha⟩:=hx;exact hm.nw _ a (get_right hl) x ha
   | succ q=>simp at hj
theorem Hp.repl (hm:Hp Z0 S w0 w L) (i:Nat) {r:Rs} (r':Rs) (hi:L[i]?=some r) (hF:∀ x,r'.F x↔r.F x) (hH:∀ Z,r.H Z w→r'.H Z w):Hp Z0 S w0 w (L.set i r'):=
 hm.upd i r' hi (Fr.refl _ _) (λx hx=>.inl ((hF x).1 hx)) λZ' h1 _=>r'.keep (hH _ (hm.hs i r hi)) (λ_ _ _=>rfl) (λ_ _ _=>rfl) h1
def optR {α:Type} (o:Option α) (R:α→Rs):Rs where
 F:=λx=>∃ z,o=some z∧(R z).F x
 H:=λZ w=>∀ z,o=some z→(R z).H Z w
 keep:=λh hF hZ hZ' z hz=>(R z).keep (h z hz) (λb hb hlt=>hF b ⟨z,hz,hb⟩ hlt) hZ hZ'
 lt:=λh b ⟨z,hz,hb⟩=>(R z).lt (h z hz) b hb
def optP {α:Type} (b:Nat) (o:Option α):Option Addr:=match o with | some _=>some ⟨b,0,none⟩ | none=>none
theorem Hp.optSome {α:Type} {o:Option α} {R:α→Rs} {z:α} (hm:Hp Z0 S w0 w L) (i:Nat) (hi:L[i]?=some (optR o R)) (h:o=some z):Hp Z0 S w0 w (L.set i (R z)):=
 hm.repl i (R z) hi (λx=>⟨λhx=>⟨z,h,hx⟩,λ⟨z',h',hx⟩=>by rw [h] at h';cases h';exact hx⟩) λZ hh=>hh z h
theorem Hp.toSome {α:Type} {R:α→Rs} {z:α} (hm:Hp Z0 S w0 w L) (i:Nat) (hi:L[i]?=some (R z)):Hp Z0 S w0 w (L.set i (optR (some z) R)):=
 hm.repl i (optR (some z) R) hi (λx=>⟨λ⟨z',h',hx⟩=>by cases h';exact hx,λhx=>⟨z,rfl,hx⟩⟩) λZ hh z' h'=>by cases h';exact hh
theorem Hp.addNone {α:Type} (R:α→Rs) (hm:Hp Z0 S w0 w L):Hp Z0 S w0 w (L++[optR (none:Option α) R]):=
 hm.know _ (λx ⟨z,h,_⟩=>by cases h) λz h=>by cases h
theorem Hp.toOpt {α:Type} {R:α→Rs} {o:Option α} {z:α} (hm:Hp Z0 S w0 w L) (i:Nat) (hi:L[i]?=some (R z)) (h:o=some z):Hp Z0 S w0 w (L.set i (optR o R)):=by subst h;exact hm.toSome i hi
def fzR (r:Rs):Rs where
 F:=No
 H:=λZ w=>r.H Z w∧∀ b,r.F b→Z b
 keep:=λ⟨h1,h2⟩ _ hZ hZ'=>⟨r.keep h1 (λb hb hlt=>hZ b (h2 b hb) hlt) hZ hZ',λb hb=>hZ' b (h2 b hb) (r.lt h1 b hb)⟩
 lt:=λ_ _ h=>h.elim
theorem fz_all {r:Rs} {Z:Nat→Prop} (h:r.H Z w):(fzR r).H All w:=⟨r.keep h (λ_ _ _=>rfl) (λ_ _ _=>rfl) (λ_ _ _=>trivial),λ_ _=>trivial⟩
theorem fz_fz {r:Rs} {Z:Nat→Prop} (h:(fzR r).H Z w):(fzR r).H All w:=fz_all h.1
theorem Hp.knowL:∀ (M:List Rs) (L:List Rs),Hp Z0 S w0 w L→(∀ r∈M,(∀ x,¬r.F x)∧r.H (Zo Z0 S w0 L) w)→Hp Z0 S w0 w (L++M)
 | [],L,hm,_=>by rw [List.append_nil];exact hm
 | r::M,L,hm,h=>by
  obtain ⟨h1,h2⟩:=h r (by simp);have hm':=hm.know r h1 h2
  have:=Hp.knowL M (L++[r]) hm' λr' hr'=>⟨(h r' (by simp [hr'])).1,r'.keep (h r' (by simp [hr'])).2 (λ_ _ _=>rfl) (λ_ _ _=>rfl) λb ⟨hb,hn⟩ _=>⟨hb,λj a hj ha=>by
   rcases get_app hj with hj|⟨_,hj⟩
   ·exact hn j a hj ha
   ·generalize j-L.length=q at hj
    cases q with
    | zero=>cases hj;exact h1 b ha
    | succ q=>simp at hj⟩⟩
  rw [List.append_assoc] at this;exact this
theorem kn0 {Q:Rs→Prop}:∀ r∈([]:List Rs),Q r:=λ_ h=>by cases h
theorem knC {Z:Nat→Prop} {a:Rs} {M:List Rs} (h1:∀ x,¬a.F x) (h2:a.H Z w) (h:∀ r∈M,(∀ x,¬r.F x)∧r.H Z w):∀ r∈a::M,(∀ x,¬r.F x)∧r.H Z w:=λr hr=>by
 rcases List.mem_cons.1 hr with rfl|hr
 ·exact ⟨h1,h2⟩
 ·exact h r hr
theorem Hp.know1 {a:Rs} {M:List Rs} (hm:Hp Z0 S w0 w (L++[a])) (ha:∀ x,¬a.F x) (h:∀ r∈M,(∀ x,¬r.F x)∧r.H (Zo Z0 S w0 L) w):Hp Z0 S w0 w (L++[a]++M):=
 Hp.knowL M (L++[a]) hm λr hr=>⟨(h r hr).1,r.keep (h r hr).2 (λ_ _ _=>rfl) (λ_ _ _=>rfl) λb ⟨hb,hn⟩ _=>⟨hb,λj c hj hc=>by
  rcases get_app hj with hj|⟨_,hj⟩
  ·exact hn j c hj hc
  ·generalize j-L.length=q at hj
   cases q with
   | zero=>cases hj;exact ha b hc
   | succ q=>simp at hj⟩⟩
theorem Hp.getz {r:Rs} (hm:Hp Z0 S w0 w L) (i:Nat) (hi:L[i]?=some (fzR r)):r.H (Zo Z0 S w0 L) w:=(hm.hs i _ hi).1
theorem Hp.unfz (hm:Hp Z0 S w0 w L) (i:Nat) (hi:L[i]?=some (fzR (objR F P))):∃ M,P M∧Hp Z0 S w0 w (L++M.map fzR):=by
 obtain ⟨⟨M,hP,hF,hH,hA⟩,hZ⟩:=hm.hs i _ hi;refine ⟨M,hP,Hp.knowL _ _ hm λr hr=>?_⟩;obtain ⟨a,ha,rfl⟩:=List.mem_map.1 hr;obtain ⟨j,hj,rfl⟩:=List.getElem_of_mem ha;exact ⟨λ_ h=>h,hH j _ (List.getElem?_eq_getElem hj),λb hb=>hZ b ((hF b).2 ⟨j,_,List.getElem?_eq_getElem hj,hb⟩)⟩
theorem Hp.fzSl {α:Type} {et:TypeId} {A:Option Addr} {c:Nat} {rep:Rep α} {xs:List α} (hm:Hp Z0 S w0 w L) (i:Nat) (hi:L[i]?=some (fzR (ownR et A c rep xs))):Hp Z0 S w0 w (L++[slR A c rep xs]):=by
 obtain ⟨h1,h2⟩:=hm.hs i _ hi;exact hm.know _ (λ_ h=>h) ⟨h1.1,h1.2.1,(Own.sl h1).mono λb hb=>hb.elim id (h2 b)⟩
theorem Hp.fzS {α:Type} {A:Option Addr} {c:Nat} {rep:Rep α} {xs:List α} (hm:Hp Z0 S w0 w L) (i:Nat) (hi:L[i]?=some (fzR (slR A c rep xs))):Hp Z0 S w0 w (L++[slR A c rep xs]):=
 hm.know _ (λ_ h=>h) (hm.hs i _ hi).1
def relR {α:Type} (rep:Rep α) (cs:List Value) (x:α):Rs where
 F:=No
 H:=λZ w=>rep.rel Z w cs x
 keep:=λh _ hZ hZ'=>rep.mono (rep.keep (rep.bd h) λb hb hlt=>hZ b hb.1 hlt) λb hb=>hZ' b hb.1 hb.2
 lt:=λ_ _ h=>h.elim
end
section
variable {P:Program} {n:Nat} {e:Env} {w:World} {dst:Option Nat} {ty:TypeId} {pos:String} {af:Array Edge} {g:Option (Nat×Bool)}
theorem optP_none {α:Type} (b:Nat) (o:Option α):(optP b o).isNone=o.isNone:=by cases o<;>rfl
theorem V.eqlO {α:Type} {x y:Operand} {b:Nat} {o:Option α} {t el u:TypeId} (ht:P.underlying t=some (.pointer el)) (hx:ev e x=some (.pointer (optP b o))) (hy:ev e y=some (.pointer none)) :
 OpV P n e w ⟨dst,.binOp .eql t x y u,ty,pos,af,g⟩ (.bool o.isNone) w:=by
 have:=V.eqlP (P:=P) (n:=n) (w:=w) (dst:=dst) (ty:=ty) (pos:=pos) (af:=af) (g:=g) (u:=u) ht hx hy;rw [optP_none] at this;exact this
theorem V.neqO {α:Type} {x y:Operand} {b:Nat} {o:Option α} {t el u:TypeId} (ht:P.underlying t=some (.pointer el)) (hx:ev e x=some (.pointer (optP b o))) (hy:ev e y=some (.pointer none)) :
 OpV P n e w ⟨dst,.binOp .neq t x y u,ty,pos,af,g⟩ (.bool (!o.isNone)) w:=by
 have:=V.neqP (P:=P) (n:=n) (w:=w) (dst:=dst) (ty:=ty) (pos:=pos) (af:=af) (g:=g) (u:=u) ht hx hy
 have h2:(optP b o).isSome = !o.isNone:=by cases o<;>rfl
 rw [h2] at this;exact this
end
end Go.Wk
set_option linter.unusedVariables false
set_option linter.unusedSimpArgs false
namespace Go.Wk
open Go Go.RowKit
def hd0 (ops:Array Oper) (n0:Nat):Array Bool:=(List.range n0).foldl (λl i=>l.setIfInBounds i true) (Array.replicate ops.size false)
def headOk (ops:Array Oper) (n0:Nat):Nat→Nat→Array Bool→Bool
 | 0,_,listed=>(Region.ready .any ops listed).all λj=>Nat.ble n0 j
 | f+1,k,listed=>(Region.ready .any ops listed).contains k&&Region.free .any ops listed k&&headOk ops n0 f (k+1) (listed.setIfInBounds k true)
def headB (ops:Array Oper) (n0:Nat):Bool:=Region.noSelect ops&&Nat.blt n0 ops.size&&Region.sinkB .any ops n0&&Region.chainB .any ops n0&&headOk ops n0 n0 0 (Array.replicate ops.size false)
section
variable {P:Program} {f:FuncId} {n:Nat} {R:Ending→World→Prop} {k:List Item} {e:Env} {w w1:World} {ops:Array Oper} {n0:Nat}
def RT (P:Program) (f:FuncId) (n:Nat) (R:Ending→World→Prop) (k:List Item) (ops:Array Oper) (n0:Nat) (w1:World) (q:Nat) (e:Env):Prop:=
 ∀ a:Act,a.defers=[]→Fits e n a.tmps→wpStill P ops w1 (λa'=>wpAny P .any ops (QQ P f R k) (ops.size-n0) (hd0 ops n0) a' w1) ((ops.toList.take n0).drop q) a
theorem headL_lex {Lq:Act→Prop} (hsel:Region.noSelect ops=true) (hs:Region.sinkB .any ops n0=true) (hc:Region.chainB .any ops n0=true) (hn:n0<ops.size) :
 ∀ (l:List Oper) (k:Nat) (listed L0:Array Bool) (a:Act),(∀ j,j<l.length→l[j]?=ops[k+j]?)→k+l.length=n0→HeadInv .any ops n0 listed →
 headOk ops n0 l.length k listed=true→(List.range' k l.length).foldl (λl i=>l.setIfInBounds i true) listed=L0→wpStill P ops w1 Lq l a →
 wpAnyL P .any ops w1 n0 (λlisted' a'=>listed'=L0∧(∀ j∈Region.ready .any ops listed',n0≤j)∧Lq a') l.length listed a
 | [],k,listed,L0,a,_,hk,_,hB,hL,h=>by
  refine ⟨hL,?_,h⟩;intro j hj;have:=List.all_eq_true.1 hB j hj;simpa [Nat.ble_eq] using this
 | o::l,k,listed,L0,a,hl,hk,inv,hB,hL,h=>by
  have h0:ops[k]?=some o:=by simpa using (hl 0 (by simp)).symm
  simp only [List.length_cons,headOk,Bool.and_eq_true] at hB;obtain ⟨⟨hr,hf⟩,hB'⟩:=hB
  have hkn:k<n0:=by simp only [List.length_cons] at hk;omega
  have hr':k∈Region.ready .any ops listed:=by simpa using hr
  have hst:stOp P ops w1 k (wpStill P ops w1 Lq l) a:=by unfold stOp;simp only [h0];exact h
  obtain ⟨v,hy,hK⟩:=yieldsAt_of_stOp h0 hst;exact wpAnyL_first h0 (Region.noSelect_spec hsel) hs hc hn hkn (λlisted' a' hL=>hL.2.1) l.length listed a inv (Region.free_spec h0 hf) hr' hy
   (headL_lex hsel hs hc hn l (k+1) _ L0 _ (λj hj=>by have:=hl (j+1) (by simp;omega);simpa [Nat.add_assoc,Nat.add_comm 1 j] using this) (by simp only [List.length_cons] at hk;omega) (inv.set hr' hkn) hB' (by rw [← hL,List.length_cons,List.range'_succ];rfl) hK)
theorem Rn.drawT {id:Nat} {Z0 S':Nat→Prop} {w0:World} {L:List Rs} (n0:Nat) (hm':P.follows .mixedOrders=true) (hm:Hp Z0 S' w0 w L) (hB:headB ops n0=true)
 (h:∀ w1,Hp Z0 S' w0 w1 L→RT P f n R k ops n0 w1 0 e):Rn P f n R (.code (.region id ops true)::k) e w:=by
 intro b tm cs h1 h2 h3;simp only [headB,Bool.and_eq_true] at hB;obtain ⟨⟨⟨⟨hsel,hn⟩,hs⟩,hc⟩,hlex⟩:=hB
 have hn:n0<ops.size:=by simpa [Nat.blt_eq] using hn
 have h4:=h w.drew (hm.ext (Ext.drew w)) ⟨tm,[]⟩ rfl h3;rw [List.drop_zero] at h4
 have htl:(ops.toList.take n0).length=n0:=by simp;omega
 have inv0:HeadInv .any ops n0 (Array.replicate ops.size false):=
  ⟨by simp,λj oj _ hl=>(by rw [getD_replicate_false] at hl;cases hl),λt _ ht=>getD_in (by simpa using ht) (getD_replicate_false _ _)⟩
 have H:=headL_lex hsel hs hc hn (ops.toList.take n0) 0 (Array.replicate ops.size false) (hd0 ops n0) ⟨tm,[]⟩ (λj hj=>by
  have hj':j<n0:=by rw [htl] at hj;exact hj
  simp [hj']) (by simpa using htl) inv0 (by rw [htl];exact hlex) (by rw [htl,← List.range_eq_range'];rfl) h4
 have H2:=wpAny_of_head (Q':=QQ P f R k) (g:=ops.size-n0) (λlisted a' hL=>by rw [hL.1];exact hL.2.2) _ _ _ H;rw [htl,show n0+(ops.size-n0)=ops.size by omega] at H2;have h5:=wp_region_any (id:=id) hm' H2;obtain ⟨x,a',w',⟨rfl,hR⟩,harr⟩:=h5 b k cs;obtain ⟨x,w2,fr,hR2,hc,q⟩:=hR b cs h1 h2;exact ⟨x,w2,fr,hR2,Comes.of_steps harr hc,q⟩
theorem still_at {q:Nat} {o:Oper} (hq:Nat.blt q n0=true) (ho:ops[q]?=some o):(ops.toList.take n0).drop q=o::(ops.toList.take n0).drop (q+1):=by
 have hq:q<n0:=by simpa [Nat.blt_eq] using hq
 have hlt:q<ops.size:=by obtain ⟨h,_⟩:=Array.getElem?_eq_some_iff.1 ho;exact h
 have hl:q<(ops.toList.take n0).length:=by simp;omega
 rw [List.drop_eq_getElem_cons hl]
 congr 1
 have:(ops.toList.take n0)[q]=ops[q]:=by simp
 rw [this];exact (Array.getElem?_eq_some_iff.1 ho).2
theorem RT.v {o:Oper} {v:Value} {d:Nat} (q:Nat) (hq:Nat.blt q n0=true) (ho:ops[q]?=some o) (hg:gok e ops o.guard=true) (hd:o.dst=some d) (hn:Nat.blt d n=true) (hv:OpV P n e w1 o v w1)
 (h:RT P f n R k ops n0 w1 (q+1) ((d,v)::e)):RT P f n R k ops n0 w1 q e:=by
 intro a ha hf;rw [still_at hq ho]
 refine wpStill_step λK hK=>?_
 rw [if_pos (wanted_of_gok hf hg)];unfold Oper.still;rw [hv a hf,Oper.stillUpon_value,hd];exact hK _ (h _ (by rw [defers_put];exact ha) (fits_put hf hn v))
theorem RT.no {o:Oper} {d:Nat} (q:Nat) (hq:Nat.blt q n0=true) (ho:ops[q]?=some o) (hg:gno e ops o.guard=true) (hd:o.dst=some d) (hn:Nat.blt d n=true)
 (h:RT P f n R k ops n0 w1 (q+1) ((d,undef)::e)):RT P f n R k ops n0 w1 q e:=by
 intro a ha hf;rw [still_at hq ho]
 refine wpStill_step λK hK=>?_
 rw [if_neg (by rw [wanted_of_gno hf hg];simp),hd];exact hK _ (h _ (by rw [defers_put];exact ha) (fits_put hf hn undef))
theorem RT.tail (h:RH P f n R k ops (λ_=>True) (ops.size-n0) (hd0 ops n0) e w1):RT P f n R k ops n0 w1 n0 e:=by
 intro a ha hf;rw [List.drop_eq_nil_of_le (by simp;omega)];exact wpStill_nil (wpAny_of_held _ _ _ _ (h a ha hf trivial))
def hdOps (ops:Array Oper) (n0:Nat):Array Oper:=(ops.toList.take n0).toArray
theorem hdOps_get {i:Nat} (hn:n0<ops.size) (h:i<n0):(hdOps ops n0)[i]?=ops[i]?:=by simp [hdOps,h]
theorem hdOps_size (hn:n0<ops.size):(hdOps ops n0).size=n0:=by simp [hdOps];omega
structure Far (ops:Array Oper) (n0:Nat) (l l':Array Bool):Prop where
 s1:l.size=ops.size
 s2:l'.size=n0
 same:∀ i,i<n0→l[i]?=l'[i]?
 tail:∀ t,n0≤t→t<ops.size→l[t]?=some false
 closed:∀ j oj,ops[j]?=some oj→l.getD j false=true→∀ ed∈oj.after,Region.binds .any ed=true→l.getD ed.on false=true
theorem Far.ready {l l':Array Bool} (hn:n0<ops.size) (hd:(List.range n0).all (λi=>match ops[i]? with | some o=>o.after.all λed=>!Region.binds .any ed||Nat.blt ed.on i | none=>false)=true) (F:Far ops n0 l l') {i:Nat} (hi:i<n0) :
 i∈Region.ready .any ops l↔i∈Region.ready .any (hdOps ops n0) l':=by
 have hdi:=List.all_eq_true.1 hd i (List.mem_range.2 hi)
 have hg:∀ (x:Nat) (b:Bool),x<n0→l.getD x b=l'.getD x b:=λx b hx=>by
  have:=F.same x hx;rw [Array.getD_eq_getD_getElem?,Array.getD_eq_getD_getElem?,this]
 constructor
 ·intro h
  obtain ⟨h1,o,ho,h2⟩:=mem_ready.1 h;refine mem_ready.2 ⟨by rw [← hg i _ hi];exact h1,o,by rw [hdOps_get hn hi];exact ho,λed hed hb=>?_⟩;rw [ho] at hdi;have:=Array.all_eq_true_iff_forall_mem.1 hdi ed hed;rw [hb] at this
  have hlt:ed.on<i:=by simpa [Nat.blt_eq] using this
  rw [← hg _ _ (by omega)];exact h2 ed hed hb
 ·intro h
  obtain ⟨h1,o,ho,h2⟩:=mem_ready.1 h;rw [hdOps_get hn hi] at ho;refine mem_ready.2 ⟨by rw [hg i _ hi];exact h1,o,ho,λed hed hb=>?_⟩;rw [ho] at hdi;have:=Array.all_eq_true_iff_forall_mem.1 hdi ed hed;rw [hb] at this
  have hlt:ed.on<i:=by simpa [Nat.blt_eq] using this
  rw [hg _ _ (by omega)];exact h2 ed hed hb
theorem Far.set {l l':Array Bool} (F:Far ops n0 l l') {i:Nat} (hi:i<n0) (hr:i∈Region.ready .any ops l):Far ops n0 (l.setIfInBounds i true) (l'.setIfInBounds i true):=by
 obtain ⟨_,oi,hoi,hall⟩:=mem_ready.1 hr;refine ⟨by simp [F.s1],by simp [F.s2],λj hj=>?_,λt h1 h2=>?_,λj oj hj hl ed he hb=>?_⟩
 ·have h:=F.same j hj
  by_cases hij:i=j
  ·subst hij
   have h1:=F.s1;have h2:=F.s2
   by_cases hlt:i<l.size
   ·rw [Array.getElem?_setIfInBounds_self_of_lt hlt,Array.getElem?_setIfInBounds_self_of_lt (by omega)]
   ·obtain ⟨hlt2,_⟩:=Array.getElem?_eq_some_iff.1 hoi;omega
  ·rw [Array.getElem?_setIfInBounds_ne hij,Array.getElem?_setIfInBounds_ne hij];exact h
 ·rw [Array.getElem?_setIfInBounds_ne (by omega)];exact F.tail t h1 h2
 ·by_cases hij:i=j
  ·subst hij
   have:oj=oi:=Option.some.inj (hj.symm.trans hoi);subst this;exact getD_set_true (hall ed he hb)
  ·rw [getD_set_ne false hij] at hl
   exact getD_set_true (F.closed j oj hj hl ed he hb)
theorem Far.inv {l l':Array Bool} (F:Far ops n0 l l'):HeadInv .any ops n0 l:=
 ⟨F.s1,F.closed,λt h1 h2=>by rw [Array.getD_eq_getD_getElem?,F.tail t h1 h2];rfl⟩
theorem Far.tailWaits {l l':Array Bool} (hs:Region.sinkB .any ops n0=true) (hc:Region.chainB .any ops n0=true) (hn:n0<ops.size) (F:Far ops n0 l l') {i:Nat} (hi:i<n0) (hun:l.getD i true=false) {j:Nat} (hj:n0≤j):j ∉ Region.ready .any ops l:=
 tail_waits hs hc hn F.inv _ i rfl hi hun j hj
theorem Far.all {l l':Array Bool} (hn:n0<ops.size) (hd:(List.range n0).all (λi=>match ops[i]? with | some o=>o.after.all λed=>!Region.binds .any ed||Nat.blt ed.on i | none=>false)=true) (F:Far ops n0 l l') (h:Region.ready .any (hdOps ops n0) l'=[]):l=hd0 ops n0:=by
 have hl:∀ i,i<n0→l.getD i true=true:=by
  intro i
  induction i using Nat.strongRecOn with
  | _ i ih=>
   intro hi
   cases hv:l.getD i true with
   | true=>rfl
   | false=>
    exfalso
    have hdi:=List.all_eq_true.1 hd i (List.mem_range.2 hi)
    have hlt:i<ops.size:=by omega
    have ho:ops[i]?=some ops[i]:=Array.getElem?_eq_getElem hlt;rw [ho] at hdi
    have:i∈Region.ready .any ops l:=mem_ready.2 ⟨hv,_,ho,λed hed hb=>by
     have h1:=Array.all_eq_true_iff_forall_mem.1 hdi ed hed;rw [hb] at h1
     have hlt2:ed.on<i:=by simpa [Nat.blt_eq] using h1
     have h2:=ih ed.on hlt2 (by omega);rw [Array.getD_eq_getD_getElem?] at h2 ⊢
     have h3:ed.on<l.size:=by have:=F.s1;omega
     rw [Array.getElem?_eq_getElem h3] at h2 ⊢
     exact h2⟩
    rw [F.ready hn hd hi,h] at this
    cases this
 have hh:∀ (m:Nat) (l0:Array Bool),((List.range m).foldl (λl i=>l.setIfInBounds i true) l0).size=l0.size:=by
  intro m
  induction m with
  | zero=>intro l0;rfl
  | succ m ih=>intro l0;rw [List.range_succ,List.foldl_append];simp [ih]
 have hg:∀ (m:Nat) (l0:Array Bool) (j:Nat),j<l0.size→((List.range m).foldl (λl i=>l.setIfInBounds i true) l0)[j]?=if j<m then some true else l0[j]?:=by
  intro m
  induction m with
  | zero=>intro l0 j _;simp
  | succ m ih=>
   intro l0 j hj;rw [List.range_succ,List.foldl_append];show (((List.range m).foldl (λl i=>l.setIfInBounds i true) l0).setIfInBounds m true)[j]?=_
   by_cases hmj:m=j
   ·subst hmj
    rw [Array.getElem?_setIfInBounds_self_of_lt (by rw [hh];exact hj),if_pos (by omega)]
   ·rw [Array.getElem?_setIfInBounds_ne hmj,ih l0 j hj]
    by_cases h1:j<m
    ·rw [if_pos h1,if_pos (by omega)]
    ·rw [if_neg h1,if_neg (by omega)]
 apply Array.ext_getElem?
 intro j;unfold hd0
 by_cases hj:j<ops.size
 ·rw [hg n0 _ j (by simpa using hj)]
  by_cases h1:j<n0
  ·rw [if_pos h1]
   have h2:=hl j h1
   have h3:j<l.size:=by have:=F.s1;omega
   rw [Array.getD_eq_getD_getElem?,Array.getElem?_eq_getElem h3] at h2;rw [Array.getElem?_eq_getElem h3];exact congrArg some h2
  ·rw [if_neg h1,F.tail j (by omega) hj];simp [hj]
 ·rw [Array.getElem?_eq_none (by have:=F.s1;omega),Array.getElem?_eq_none (by rw [hh];simp;omega)]
theorem wpAny_more {Q:Exit→Act→World→Prop}:∀ (g:Nat) (l:Array Bool) (a:Act) (w:World),wpAny P .any ops Q g l a w→wpAny P .any ops Q (g+1) l a w
 | 0,l,a,w,h=>⟨λ_=>h.2,by rw [h.1];simp⟩
 | g+1,l,a,w,h=>⟨h.1,λi hi=>wpOp_mono (λa' w' h'=>wpAny_more g _ a' w' h') (h.2 i hi)⟩
theorem wpAny_add {Q:Exit→Act→World→Prop}:∀ (m g:Nat) (l:Array Bool) (a:Act) (w:World),wpAny P .any ops Q g l a w→wpAny P .any ops Q (m+g) l a w
 | 0,g,l,a,w,h=>by rw [Nat.zero_add];exact h
 | m+1,g,l,a,w,h=>by rw [show m+1+g=(m+g)+1 by omega];exact wpAny_more _ _ _ _ (wpAny_add m g l a w h)
theorem wpOp_head {ops':Array Oper} {Q:Exit→Act→World→Prop} {K:Act→World→Prop} {X Y:Act→World→Prop} {i:Nat} {a:Act} {w:World} (hi:ops'[i]?=ops[i]?) (hw:∀ o,ops[i]?=some o→Region.wanted o (yielded ops' a.tmps)=Region.wanted o (yielded ops a.tmps))
 (hk:∀ a w,X a w→Y a w) (h:wpOp P ops' (QK K) i X a w):wpOp P ops Q i Y a w:=by
 unfold wpOp at h ⊢;rw [hi] at h
 split
 ·rename_i hn;simp only [hn] at h;exact hk _ _ h
 ·rename_i o ho
  simp only [ho] at h;rw [hw o ho] at h
  split
  ·rename_i hwd
   simp only [hwd,if_true] at h
   rcases h with h|⟨_,a,w,h,_⟩
   ·refine .inl ?_
    unfold Oper.wp at *;generalize (execOp a.eval o).run P w=r at *
    cases r with
    | ok n w'=>
     cases n<;>simp only [Oper.upon] at h ⊢
     case value u=>exact hk _ _ h
     case skip=>exact hk _ _ h
     case defer d=>exact hk _ _ h
     case enter f args=>
      refine Calls.mono h λe w'' he=>?_
      cases e with
      | returned u=>exact hk _ _ he
      | panicked c=>cases he.1
      | outgrown=>obtain ⟨_,_,h,_⟩:=he;cases h
     case row row args=>exact Rows.mono h λu w'' he=>hk _ _ he
    | halt x w'=>
     cases x<;>simp only [Oper.upon] at h ⊢
     case panic u=>cases h.1
   ·cases h
  ·rename_i hwd
   simp only [hwd] at h;exact hk _ _ h
theorem headK_go {Q:Exit→Act→World→Prop} {K:Act→World→Prop} {S:World→Prop} (hn:n0<ops.size) (hs:Region.sinkB .any ops n0=true) (hc:Region.chainB .any ops n0=true)
 (hd:(List.range n0).all (λi=>match ops[i]? with | some o=>o.after.all λed=>!Region.binds .any ed||Nat.blt ed.on i | none=>false)=true)
 (hg:(List.range n0).all (λi=>match ops[i]? with | some o=>(match o.guard with | some (j,_)=>Nat.blt j n0 | none=>true) | none=>false)=true)
 (hK:∀ a w,K a w→wpAny P .any ops Q (ops.size-n0) (hd0 ops n0) a w) :
 ∀ (fu:Nat) (l l':Array Bool) (a:Act) (w:World),Far ops n0 l l'→wpAnyH P .any (hdOps ops n0) (QK K) S fu l' a w→wpAny P .any ops Q (fu+(ops.size-n0)) l a w:=by
 intro fu
 induction fu with
 | zero=>
  intro l l' a w F h;rw [Nat.zero_add,F.all hn hd h.1];exact hK a w h.2.2
 | succ fu ih=>
  intro l l' a w F h
  by_cases hr:Region.ready .any (hdOps ops n0) l'=[]
  ·rw [F.all hn hd hr]
   exact wpAny_add _ _ _ _ _ (hK a w (h.1 hr).2)
  ·obtain ⟨i0,hi0⟩:∃ i0,i0∈Region.ready .any (hdOps ops n0) l':=List.exists_mem_of_ne_nil _ hr
   have hi0n:i0<n0:=by
    obtain ⟨_,o,ho,_⟩:=mem_ready.1 hi0;obtain ⟨hlt,_⟩:=Array.getElem?_eq_some_iff.1 ho;rw [hdOps_size hn] at hlt;exact hlt
   have hr0:=(F.ready hn hd hi0n).2 hi0;have hun:=(mem_ready.1 hr0).1;rw [show fu+1+(ops.size-n0)=(fu+(ops.size-n0))+1 by omega];refine ⟨λh0=>(by rw [h0] at hr0;cases hr0),λi hi=>?_⟩
   have hin:i<n0:=by
    rcases Nat.lt_or_ge i n0 with h1|h1
    ·exact h1
    ·exact absurd hi (F.tailWaits hs hc hn hi0n hun h1)
   have hi':=(F.ready hn hd hin).1 hi;refine wpOp_head (hdOps_get hn hin) (λo ho=>?_) (λa' w' h3=>ih _ _ a' w' (F.set hin hi) h3.2) (h.2 i hi');have hgi:=List.all_eq_true.1 hg i (List.mem_range.2 hin);rw [ho] at hgi;dsimp only at hgi;unfold Region.wanted
   cases hgd:o.guard with
   | none=>rfl
   | some q=>
    obtain ⟨j,b⟩:=q;rw [hgd] at hgi
    have hj:j<n0:=by simpa [Nat.blt_eq] using hgi
    have hy:yielded (hdOps ops n0) a.tmps j=yielded ops a.tmps j:=by unfold yielded;rw [hdOps_get hn hj]
    simp only [hy]
def headKB (ops:Array Oper) (n0:Nat):Bool:=Nat.blt n0 ops.size&&Region.sinkB .any ops n0&&Region.chainB .any ops n0 &&
 ((List.range n0).all λi=>match ops[i]? with | some o=>o.after.all λed=>!Region.binds .any ed||Nat.blt ed.on i | none=>false) &&
 ((List.range n0).all λi=>match ops[i]? with | some o=>(match o.guard with | some (j,_)=>Nat.blt j n0 | none=>true) | none=>false)
def KT (P:Program) (f:FuncId) (R:Ending→World→Prop) (k:List Item) (ops:Array Oper) (n0:Nat):Act→World→Prop:=λa w=>wpAny P .any ops (QQ P f R k) (ops.size-n0) (hd0 ops n0) a w
theorem Rn.drawK {id:Nat} {Z0 S':Nat→Prop} {w0:World} {L:List Rs} (n0:Nat) (hm':P.follows .mixedOrders=true) (hm:Hp Z0 S' w0 w L) (hB:headKB ops n0=true)
 (h:∀ w1,Hp Z0 S' w0 w1 L→RG P n (KT P f R k ops n0) (hdOps ops n0) (λw'=>Ext w1 w') n0 (Array.replicate n0 false) e w1):Rn P f n R (.code (.region id ops true)::k) e w:=by
 intro b tm cs h1 h2 h3;simp only [headKB,Bool.and_eq_true] at hB;obtain ⟨⟨⟨⟨hn,hs⟩,hc⟩,hd⟩,hg⟩:=hB
 have hn:n0<ops.size:=by simpa [Nat.blt_eq] using hn
 have h4:=h w.drew (hm.ext (Ext.drew w)) ⟨tm,[]⟩ rfl h3 (Ext.refl _)
 have F:Far ops n0 (Array.replicate ops.size false) (Array.replicate n0 false):=by
  refine ⟨by simp,by simp,λi hi=>?_,λt _ ht=>?_,λj oj _ hl=>(by rw [getD_replicate_false] at hl;cases hl)⟩
  ·have:i<ops.size:=by omega
   simp [hi,this]
  ·simp [ht]
 have H:=headK_go (Q:=QQ P f R k) hn hs hc hd hg (λa w hK=>hK) n0 _ _ _ _ F h4;rw [show n0+(ops.size-n0)=ops.size by omega] at H;have h5:=wp_region_any (id:=id) hm' H;obtain ⟨x,a',w',⟨rfl,hR⟩,harr⟩:=h5 b k cs;obtain ⟨x,w2,fr,hR2,hc,q⟩:=hR b cs h1 h2;exact ⟨x,w2,fr,hR2,Comes.of_steps harr hc,q⟩
theorem RG.tailK {S:World→Prop} {fuel:Nat} {listed:Array Bool} (hr:Region.ready .any (hdOps ops n0) listed=[]) (h:RH P f n R k ops (λ_=>True) (ops.size-n0) (hd0 ops n0) e w):RG P n (KT P f R k ops n0) (hdOps ops n0) S fuel listed e w:=by
 intro a ha hf hS;exact wpAnyH_done hr ⟨rfl,wpAny_of_held _ _ _ _ (h a ha hf trivial)⟩ fuel
end
end Go.Wk
set_option linter.unusedVariables false
set_option linter.unusedSimpArgs false
namespace Go.Wk
open Go Go.RowKit
def shrZ (x:Int) (n:Nat):Int:=x.fdiv (2^(min n 64))
def xorZ (x y:Int):Int:=W64 ((BitVec.ofInt 64 x^^^BitVec.ofInt 64 y).toNat:Int)
section
variable {P:Program} {n:Nat} {e:Env} {w:World} {dst:Option Nat} {ty:TypeId} {pos:String} {af:Array Edge} {g:Option (Nat×Bool)}
theorem V.shrZ {q:IntKind} {x y:Operand} {a:Int} {m:Nat} {t u:TypeId} (hx:ev e x=some (.int .i64 a)) (hy:ev e y=some (.int q (m:Nat))):OpV P n e w ⟨dst,.binOp .shr t x y u,ty,pos,af,g⟩ (.int .i64 (shrZ a m)) w:=
 V.op2 hx hy (by rw [binOp_shr];simp [Op.shift,IntKind.bits,Go.Wk.shrZ];intro h;omega)
theorem V.xorZ {x y:Operand} {a b:Int} {t u:TypeId} (hx:ev e x=some (.int .i64 a)) (hy:ev e y=some (.int .i64 b)):OpV P n e w ⟨dst,.binOp .xor t x y u,ty,pos,af,g⟩ (.int .i64 (xorZ a b)) w:=V.op2 hx hy (by rw [binOp_xor,intBits_xor];rfl)
def shl8 (a:UInt8) (n:Nat):UInt8:=if n<8 then a<<<UInt8.ofNat n else 0
def shr8 (a:UInt8) (n:Nat):UInt8:=if n<8 then a>>>UInt8.ofNat n else 0
theorem V.shl8 {q:IntKind} {x y:Operand} {a:UInt8} {m:Nat} {t u:TypeId} (hx:ev e x=some (.int .u8 a.toNat)) (hy:ev e y=some (.int q (m:Nat))):OpV P n e w ⟨dst,.binOp .shl t x y u,ty,pos,af,g⟩ (.int .u8 ((shl8 a m).toNat:Nat)) w:=by
 refine V.op2 hx hy ?_;rw [binOp_shl]
 have h:¬((m:Int)<0):=by omega
 simp only [Op.shift,h,if_false,IntKind.bits]
 congr 2
 unfold Go.Wk.shl8
 by_cases hm:m<8
 ·rw [if_pos hm,UInt8.toNat_shiftLeft]
  have h2:(UInt8.ofNat m).toNat%8=m:=by rw [UInt8.toNat_ofNat'];omega
  have h3:min (m:Int).toNat 8=m:=by omega
  rw [h2,h3,Nat.shiftLeft_eq];simp [IntKind.wrap,IntKind.signed,IntKind.bits]
 ·rw [if_neg hm]
  have h3:min (m:Int).toNat 8=8:=by omega
  rw [h3];simp [IntKind.wrap,IntKind.signed,IntKind.bits]
theorem V.shr8 {q:IntKind} {x y:Operand} {a:UInt8} {m:Nat} {t u:TypeId} (hx:ev e x=some (.int .u8 a.toNat)) (hy:ev e y=some (.int q (m:Nat))):OpV P n e w ⟨dst,.binOp .shr t x y u,ty,pos,af,g⟩ (.int .u8 ((shr8 a m).toNat:Nat)) w:=by
 refine V.op2 hx hy ?_;rw [binOp_shr]
 have h:¬((m:Int)<0):=by omega
 simp only [Op.shift,h,if_false,IntKind.bits]
 congr 2
 unfold Go.Wk.shr8
 by_cases hm:m<8
 ·rw [if_pos hm,UInt8.toNat_shiftRight]
  have h2:(UInt8.ofNat m).toNat%8=m:=by rw [UInt8.toNat_ofNat'];omega
  have h3:min (m:Int).toNat 8=m:=by omega
  rw [h2,h3,Nat.shiftRight_eq_div_pow,Int.fdiv_eq_ediv_of_nonneg _ (by exact Int.pow_nonneg (by decide))];simp
 ·rw [if_neg hm]
  have h3:min (m:Int).toNat 8=8:=by omega
  have:=a.toNat_lt;rw [h3,Int.fdiv_eq_ediv_of_nonneg _ (by decide),Int.ediv_eq_zero_of_lt (by omega) (by omega)]
  rfl
theorem V.and8 {x y:Operand} {a b:UInt8} {t u:TypeId} (hx:ev e x=some (.int .u8 a.toNat)) (hy:ev e y=some (.int .u8 b.toNat)):OpV P n e w ⟨dst,.binOp .and t x y u,ty,pos,af,g⟩ (.int .u8 ((a&&&b).toNat:Nat)) w:=by
 refine V.op2 hx hy ?_;rw [binOp_and,intBits_and];congr 2
 have h1:BitVec.ofInt 8 (a.toNat:Int)=a.toBitVec:=by apply BitVec.eq_of_toNat_eq;simp
 have h2:BitVec.ofInt 8 (b.toNat:Int)=b.toBitVec:=by apply BitVec.eq_of_toNat_eq;simp
 show IntKind.u8.wrap ((BitVec.ofInt 8 (a.toNat:Int)&&&BitVec.ofInt 8 (b.toNat:Int)).toNat:Int)=_;rw [h1,h2];have:=(a.toBitVec&&&b.toBitVec).isLt;simp only [IntKind.wrap,IntKind.signed,IntKind.bits,Bool.false_and,Bool.false_eq_true,if_false]
 have h3:((a.toBitVec&&&b.toBitVec).toNat:Int)%2^8=((a.toBitVec&&&b.toBitVec).toNat:Int):=by omega
 rw [h3];simp
theorem V.or8 {x y:Operand} {a b:UInt8} {t u:TypeId} (hx:ev e x=some (.int .u8 a.toNat)) (hy:ev e y=some (.int .u8 b.toNat)):OpV P n e w ⟨dst,.binOp .or t x y u,ty,pos,af,g⟩ (.int .u8 ((a|||b).toNat:Nat)) w:=by
 refine V.op2 hx hy ?_;rw [binOp_or,intBits_or];congr 2
 have h1:BitVec.ofInt 8 (a.toNat:Int)=a.toBitVec:=by apply BitVec.eq_of_toNat_eq;simp
 have h2:BitVec.ofInt 8 (b.toNat:Int)=b.toBitVec:=by apply BitVec.eq_of_toNat_eq;simp
 show IntKind.u8.wrap ((BitVec.ofInt 8 (a.toNat:Int)|||BitVec.ofInt 8 (b.toNat:Int)).toNat:Int)=_;rw [h1,h2];have:=(a.toBitVec|||b.toBitVec).isLt;simp only [IntKind.wrap,IntKind.signed,IntKind.bits,Bool.false_and,Bool.false_eq_true,if_false]
 have h3:((a.toBitVec|||b.toBitVec).toNat:Int)%2^8=((a.toBitVec|||b.toBitVec).toNat:Int):=by omega
 rw [h3];simp
theorem V.com8 {x:Operand} {a:UInt8} {t:TypeId} (hx:ev e x=some (.int .u8 a.toNat)):OpV P n e w ⟨dst,.unOp .xor t x,ty,pos,af,g⟩ (.int .u8 ((~~~ a).toNat:Nat)) w:=λq hf=>by
 have h1:BitVec.ofInt 8 (a.toNat:Int)=a.toBitVec:=by apply BitVec.eq_of_toNat_eq;simp
 have h0:BitVec.ofInt 8 (IntKind.u8.max)=BitVec.allOnes 8:=by decide
 have h2:(Op.intBits .xor .u8 (IntKind.u8.max) (a.toNat:Int))=pure (.int .u8 ((~~~ a).toNat:Int)):=by
  rw [intBits_xor];congr 2;show IntKind.u8.wrap ((BitVec.ofInt 8 (IntKind.u8.max)^^^BitVec.ofInt 8 (a.toNat:Int)).toNat:Int)=_;rw [h1,h0]
  have h4:BitVec.allOnes 8^^^a.toBitVec = ~~~ a.toBitVec:=by rw [BitVec.not_def]
  rw [h4];have:=(~~~ a.toBitVec).isLt;simp only [IntKind.wrap,IntKind.signed,IntKind.bits,Bool.false_and,Bool.false_eq_true,if_false]
  have h3:((~~~ a.toBitVec).toNat:Int)%2^8=((~~~ a.toBitVec).toNat:Int):=by omega
  rw [h3]
  rfl
 simp [execOp,ev_eval hf hx,Op.unary,IntKind.signed,h2]
def shl64 (a:UInt64) (n:Nat):UInt64:=if n<64 then a<<<UInt64.ofNat n else 0
def shr64 (a:UInt64) (n:Nat):UInt64:=if n<64 then a>>>UInt64.ofNat n else 0
theorem V.shl64 {q:IntKind} {x y:Operand} {a:UInt64} {m:Nat} {t u:TypeId} (hx:ev e x=some (.int .u64 a.toNat)) (hy:ev e y=some (.int q (m:Nat))):OpV P n e w ⟨dst,.binOp .shl t x y u,ty,pos,af,g⟩ (.int .u64 ((shl64 a m).toNat:Nat)) w:=by
 refine V.op2 hx hy ?_;rw [binOp_shl]
 have h:¬((m:Int)<0):=by omega
 simp only [Op.shift,h,if_false,IntKind.bits]
 congr 2
 unfold Go.Wk.shl64
 by_cases hm:m<64
 ·rw [if_pos hm,UInt64.toNat_shiftLeft]
  have h2:(UInt64.ofNat m).toNat%64=m:=by rw [UInt64.toNat_ofNat'];omega
  have h3:min (m:Int).toNat 64=m:=by omega
  rw [h2,h3,Nat.shiftLeft_eq];simp [IntKind.wrap,IntKind.signed,IntKind.bits]
 ·rw [if_neg hm]
  have h3:min (m:Int).toNat 64=64:=by omega
  rw [h3];simp [IntKind.wrap,IntKind.signed,IntKind.bits]
theorem V.shr64 {q:IntKind} {x y:Operand} {a:UInt64} {m:Nat} {t u:TypeId} (hx:ev e x=some (.int .u64 a.toNat)) (hy:ev e y=some (.int q (m:Nat))):OpV P n e w ⟨dst,.binOp .shr t x y u,ty,pos,af,g⟩ (.int .u64 ((shr64 a m).toNat:Nat)) w:=by
 refine V.op2 hx hy ?_;rw [binOp_shr]
 have h:¬((m:Int)<0):=by omega
 simp only [Op.shift,h,if_false,IntKind.bits]
 congr 2
 unfold Go.Wk.shr64
 by_cases hm:m<64
 ·rw [if_pos hm,UInt64.toNat_shiftRight]
  have h2:(UInt64.ofNat m).toNat%64=m:=by rw [UInt64.toNat_ofNat'];omega
  have h3:min (m:Int).toNat 64=m:=by omega
  rw [h2,h3,Nat.shiftRight_eq_div_pow,Int.fdiv_eq_ediv_of_nonneg _ (by exact Int.pow_nonneg (by decide))];simp
 ·rw [if_neg hm]
  have h3:min (m:Int).toNat 64=64:=by omega
  have:=a.toNat_lt;rw [h3,Int.fdiv_eq_ediv_of_nonneg _ (by decide),Int.ediv_eq_zero_of_lt (by omega) (by omega)]
  rfl
end
end Go.Wk
set_option linter.unusedVariables false
set_option linter.unusedSimpArgs false
namespace Go.Wk
open Go Go.RowKit
variable {K:Act→World→Prop}
section
variable {P:Program} {f:FuncId} {n:Nat} {R:Ending→World→Prop} {k:List Item} {e:Env} {w w1:World} {ops:Array Oper} {n0:Nat} {Z0 S':Nat→Prop} {w0:World} {L:List Rs} {α:Type} {rep:Rep α}
variable {d:Nat} {ty:TypeId} {pos:String} {af:Array Edge} {g:Option (Nat×Bool)} {fuel:Nat} {listed:Array Bool} {S:World→Prop}
theorem cutOp {t el:TypeId} {x:Operand} {lo hi:Option Operand} {A:Option Addr} {c m:Nat} {p q:Int} {xs zs:List α} {s:Nat} {dst:Option Nat} (hm:Hp Z0 S' w0 w L) (m':Nat) (hi':L[m']?=some (slR A c rep xs)) (hz:cutL xs p q=some zs)
 (ht:P.underlying t=some (.slice el)) (hs:∀ w,(sizeOf el).run P w=.ok s w) (hsz:rep.sz=s) (hx:ev e x=some (.slice A m c)) (hmm:xs.length=m) (hlo:lo? e lo p) (hhi:hi? e hi q m) :
 ∃ A' c',Hp Z0 S' w0 w (L++[slR A' c' rep zs])∧∀ w',OpV P n e w' ⟨dst,.slice t x lo hi none,ty,pos,af,g⟩ (.slice A' zs.length c') w':=by
 obtain ⟨p',q',rfl,rfl,h1,h2,rfl⟩:=cutE hz;obtain ⟨g1,g2,g3⟩:=hm.get m' hi';subst hmm;have hcut:=g3.cut (c:=c) p' q' (by omega) (by omega)
 have hl:((xs.take q').drop p').length=q'-p':=by rw [List.length_drop,List.length_take];omega
 refine ⟨_,c-p',hm.knowSl (by omega) (by omega) hcut,λw'=>?_⟩;rw [hl];subst hsz;refine V.cutV p' q' ht hs hx ?_ ?_ h1 (by omega)
 ·cases lo with
  | none=>have hh:(p':Int)=0:=hlo;exact Int.ofNat.inj hh
  | some y=>exact ⟨_,hlo,rfl⟩
 ·cases hi with
  | none=>have hh:(q':Int)=_:=hhi;exact Int.ofNat.inj hh
  | some y=>exact ⟨_,hhi,rfl⟩
theorem RH.cutH {t el:TypeId} {x:Operand} {lo hi:Option Operand} {A:Option Addr} {c m:Nat} {p q:Int} {xs zs:List α} {s:Nat} (i:Nat) (hk:okTake ops listed i=true) (hm:Hp Z0 S' w0 w L) (m':Nat) (hi':L[m']?=some (slR A c rep xs)) (hz:cutL xs p q=some zs) (ho:ops[i]?=some ⟨some d,.slice t x lo hi none,ty,pos,af,g⟩) (hg:gok e ops g=true) (hn:Nat.blt d n=true)
 (ht:P.underlying t=some (.slice el)) (hs:∀ w,(sizeOf el).run P w=.ok s w) (hsz:rep.sz=s) (hx:ev e x=some (.slice A m c)) (hmm:xs.length=m) (hlo:lo? e lo p) (hhi:hi? e hi q m)
 (h:∀ A' c',Hp Z0 S' w0 w (L++[slR A' c' rep zs])→RG P n K ops S fuel (listed.setIfInBounds i true) ((d,.slice A' zs.length c')::e) w):RG P n K ops S (fuel+1) listed e w:=by
 obtain ⟨A',c',h1,h2⟩:=cutOp (n:=n) (dst:=some d) (ty:=ty) (pos:=pos) (af:=af) (g:=g) hm m' hi' hz ht hs hsz hx hmm hlo hhi;exact RH.take i hk ho hg rfl hn (λw' _=>h2 w') (h A' c' h1)
theorem RH.appH {by_:Nat} {t el:TypeId} {x y:Operand} {A A':Option Addr} {c c' l':Nat} {xs ys zs:List α} (i:Nat) (hr:Region.ready .any ops listed=[i])
 (hm:Hp Z0 S' w0 w L) (m:Nat) (hi:L[m]?=some (ownR el A c rep xs)) (hzs:appL xs ys=some zs)
 (ho:ops[i]?=some ⟨some d,.call { callee:=.builtin .append,args:=#[x,y],argTypes:=#[t,t] },ty,pos,af,g⟩) (hg:gok e ops g=true) (hn:Nat.blt d n=true)
 (ht:P.underlying t=some (.slice el)) (hel:ElOk P el rep.sz by_) (hby:Nat.ble by_ 131072=true) (hx:ev e x=some (.slice A xs.length c)) (hy:ev e y=some (.slice A' l' c')) (hl:ys.length=l')
 (hS:Src (Zo Z0 S' w0 L) w A' rep ys)
 (h:∀ A2 c2 w',Hp Z0 S' w0 w' (L.set m (ownR el A2 c2 rep zs))→S w'∧RG P n K ops S fuel (listed.setIfInBounds i true) ((d,.slice A2 zs.length c2)::e) w'):RG P n K ops S (fuel+1) listed e w:=by
 obtain ⟨hle,rfl⟩:=appE hzs;subst hl;have h0:=hm.get m hi;have hO:Own 0 (λb=>Zo Z0 S' w0 L b∧b<w.heap.size) w el A c rep xs:=Own.bd h0;obtain ⟨A2,c2,w',hr',hF,hob,hown⟩:=app_run (P:=P) (c':=c') ht hel hO hS.bd rfl (Nat.zero_le _) (by omega) (mul_by hle hby) ty;have hO2:=hown (λb hb hob=>hb.1.2 m _ hi hob) (λb hb hob=>hb.1.2 m _ hi hob);obtain ⟨h6,h7⟩:=h A2 c2 w' (hm.upd m _ hi hF (λx hx=>(hob x hx).imp id λhh=>by omega) λZ' h1 _=>hO2.mono λb hb=>by rcases hb with hb|hb<;>exact h1 b hb.1 hb.2);rw [List.length_append] at h7;exact RH.one i hr (v:=.slice A2 (xs.length+ys.length) c2) (w':=w') ho hg rfl hn (λa hf=>by simp [execOp,resolve,invoke,builtin,ev_eval hf hx,ev_eval hf hy,hr']) h6 h7
theorem RH.bslS {t el:TypeId} {s by_:Nat} {ps:List (Nat×Operand)} {m:Nat} {us cs:List Value} (i:Nat) (hr:Region.ready .any ops listed=[i]) (ho:ops[i]?=some ⟨some d,.buildSlice t m ps.toArray,ty,pos,af,g⟩) (hg:gok e ops g=true) (hn:Nat.blt d n=true)
 (ht:P.underlying t=some (.slice el)) (hel:ElOk P el s by_) (hps:ps.map (·.1)=List.range m) (hx:evs e (ps.map (·.2))=some us) (hl:us.length=m) (hcs:us.flatMap (λu=>u.cells.toList)=cs) (hu:∀ u∈us,u.cells.size=s) (hbig:m*s≤16777216)
 (h:∀ b w',b=w.heap.size→Blk w' b el cs→Ext w w'→S w'∧RG P n K ops S fuel (listed.setIfInBounds i true) ((d,.slice (some ⟨b,0,none⟩) m m)::e) w'):RG P n K ops S (fuel+1) listed e w:=by
 obtain ⟨h6,h7⟩:=h w.heap.size (w.alloc (.cells cs.toArray el)) rfl (Blk.new w el cs) (Ext.alloc w _);refine RH.one i hr ho hg rfl hn (V.bsl (by simpa using hx) (λw=>?_)) h6 h7;rw [List.toList_toArray,hps,← hcs];exact run_buildSlice ht hel hl hu hbig w
end
end Go.Wk
namespace Go.Wk
open Go Go.RowKit
def normL:Code→List Item→List Item
 | .seq a b,k=>normL a (.code b::k)
 | .skip,k=>k
 | c,k=>.code c::k
def labelAt (l:Nat) (k:List Item):Option (List Item):=match gotoIn l k with
 | some (.code c::k1)=>some (normL c k1)
 | _=>none
theorem Rn.joinL {P:Program} {f:FuncId} {n:Nat} {R:Ending→World→Prop} {k k':List Item} {e:Env} {w:World} {G R':Type} {r:R'} (l:Nat) (hk:labelAt l k=some k') (E:G→Env) (I:G→World→Prop) (K:G→Option R')
 (rest:∀ g w',I g w'→K g=some r→Rn P f n R k' (E g) w')
 (h:(∀ g w' e',Sub (E g) e'→I g w'→K g=some r→Rn P f n R k' e' w')→Rn P f n R k e w):Rn P f n R k e w:=
 h λg w' _ hs hI hK=>(rest g w' hI hK).weaken hs
end Go.Wk
namespace Go.Wk
open Go Go.RowKit
section
variable {α:Type} {rep:Rep α} {Z0 S:Nat→Prop} {w0 w w':World} {L:List Rs}
end
end Go.Wk
set_option linter.unusedVariables false
set_option linter.unusedSimpArgs false
namespace Go.Wk
open Go Go.RowKit
section
variable {α:Type}
def v1 (vs:List Value):Value:=match vs with | [v]=>v | _=>undef
def vA (vs:List Value):Value:=.agg vs.toArray
abbrev Kv (α:Type):=List (List UInt8×α)
def lookP (key:List UInt8) (l:Kv α):Option α:=(l.find? λp=>decide (p.1=key)).map (·.2)
def putP (key:List UInt8) (x:α):Kv α→Kv α
 | []=>[(key,x)]
 | p::r=>if p.1=key then (key,x)::r else p::putP key x r
def MsRep (tv:List Value→Value) (rep:Rep α) (Z:Nat→Prop) (w:World):Ms→Kv α→Prop
 | [],[]=>True
 | m::ms,p::ps=>m.1=p.1∧(∃ vs,m.2.1=tv vs∧rep.rel Z w vs p.2)∧MsRep tv rep Z w ms ps
 | _,_=>False
variable {tv:List Value→Value} {rep:Rep α} {Z Z':Nat→Prop} {w w':World}
theorem MsRep.imp (h:∀ vs x,rep.rel Z w vs x→rep.rel Z' w' vs x):∀ {ms:Ms} {ps:Kv α},MsRep tv rep Z w ms ps→MsRep tv rep Z' w' ms ps
 | [],[],_=>trivial
 | _::_,_::_,⟨h1,⟨vs,h2,h3⟩,h4⟩=>⟨h1,⟨vs,h2,h _ _ h3⟩,MsRep.imp h h4⟩
 | _::_,[],h0 | [],_::_,h0=>h0.elim
theorem MsRep.names:∀ {ms:Ms} {ps:Kv α},MsRep tv rep Z w ms ps→ms.map (·.1)=ps.map (·.1)
 | [],[],_=>rfl
 | _::_,_::_,⟨h1,_,h4⟩=>by simp [h1,h4.names]
 | _::_,[],h0 | [],_::_,h0=>h0.elim
theorem MsRep.length {ms:Ms} {ps:Kv α} (h:MsRep tv rep Z w ms ps):ms.length=ps.length:=by simpa using congrArg List.length h.names
theorem MsRep.look (key:List UInt8):∀ {ms:Ms} {ps:Kv α},MsRep tv rep Z w ms ps→(lookM ms key=none∧lookP key ps=none)∨∃ vs x,lookM ms key=some (tv vs)∧lookP key ps=some x∧rep.rel Z w vs x
 | [],[],_=>.inl ⟨rfl,rfl⟩
 | m::ms,p::ps,⟨h1,⟨vs,h2,h3⟩,h4⟩=>by
  by_cases hk:p.1=key
  ·have hk':m.1=key:=h1.trans hk
   exact .inr ⟨vs,p.2,by simp [lookM,hk',h2],by simp [lookP,hk],h3⟩
  ·have hk':m.1≠key:=λh=>hk (h1.symm.trans h)
   have e1:lookM (m::ms) key=lookM ms key:=by simp [lookM,hk']
   have e2:lookP key (p::ps)=lookP key ps:=by simp [lookP,hk]
   rw [e1,e2];exact h4.look key
 | _::_,[],h0 | [],_::_,h0=>h0.elim
theorem MsRep.put (key:List UInt8) (c:Nat) {vs:List Value} {x:α} (hx:rep.rel Z w vs x):∀ {ms:Ms} {ps:Kv α},MsRep tv rep Z w ms ps→MsRep tv rep Z w (putM key (tv vs) c ms) (putP key x ps)
 | [],[],_=>⟨rfl,⟨vs,rfl,hx⟩,trivial⟩
 | m::ms,p::ps,⟨h1,h2,h4⟩=>by
  by_cases hk:p.1=key
  ·have hk':m.1=key:=h1.trans hk
   simp only [putM,putP,if_pos hk,if_pos hk'];exact ⟨rfl,⟨vs,rfl,hx⟩,h4⟩
  ·have hk':m.1≠key:=λh=>hk (h1.symm.trans h)
   simp only [putM,putP,if_neg hk,if_neg hk'];exact ⟨h1,h2,h4.put key c hx⟩
 | _::_,[],h0 | [],_::_,h0=>h0.elim
theorem putM_keys (key:List UInt8) (v:Value) (c:Nat):∀ (ms:Ms),(∀ k∈(putM key v c ms).map (·.1),k=key∨k∈ms.map (·.1))∧((ms.map (·.1)).Nodup→((putM key v c ms).map (·.1)).Nodup)
 | []=>by simp [putM]
 | p::r=>by
  by_cases hk:p.1=key
  ·simp only [putM,if_pos hk,List.map_cons]
   refine ⟨λk h=>?_,λh=>?_⟩
   ·rcases List.mem_cons.1 h with h | h
    ·exact .inl h
    ·exact .inr (List.mem_cons_of_mem _ h)
   ·rw [List.nodup_cons] at h ⊢;rw [hk] at h;exact h
  ·simp only [putM,if_neg hk,List.map_cons]
   obtain ⟨h1,h2⟩:=putM_keys key v c r;refine ⟨λk h=>?_,λh=>?_⟩
   ·rcases List.mem_cons.1 h with h | h
    ·exact .inr (by rw [h];exact List.mem_cons_self)
    ·exact (h1 k h).imp id λh=>List.mem_cons_of_mem _ h
   ·rw [List.nodup_cons] at h ⊢
    exact ⟨λhm=>(h1 _ hm).elim hk h.1,h2 h.2⟩
theorem putM_stamps (key:List UInt8) (v:Value) (c:Nat):∀ (ms:Ms),(∀ p∈ms,p.2.2<c)→(ms.map (·.2.2)).Nodup →
 (((lookM ms key).isSome=true→(putM key v c ms).map (·.2.2)=ms.map (·.2.2))∧((lookM ms key).isSome=false→(putM key v c ms).map (·.2.2)=ms.map (·.2.2)++[c]))
 | [],_,_=>by simp [putM,lookM]
 | p::r,hb,hn=>by
  by_cases hk:p.1=key
  ·simp [putM,lookM,hk]
  ·have e1:lookM (p::r) key=lookM r key:=by simp [lookM,hk]
   rw [List.map_cons,List.nodup_cons] at hn;obtain ⟨h1,h2⟩:=putM_stamps key v c r (λq hq=>hb q (by simp [hq])) hn.2;simp only [putM,if_neg hk,List.map_cons,e1];exact ⟨λh=>by rw [h1 h],λh=>by rw [h2 h];rfl⟩
structure MpA (tv:List Value→Value) (rep:Rep α) (Z:Nat→Prop) (w:World) (b:Nat) (ms:Ms) (c:Nat) (ps:Kv α):Prop where
 mp:Mp w b ms c
 rp:MsRep tv rep Z w ms ps
 born:∀ p∈ms,p.2.2<c
 bnd:(ms.map (·.2.2)).Nodup
 keys:(ms.map (·.1)).Nodup
theorem MpA.put {b c:Nat} {ms:Ms} {ps:Kv α} (h:MpA tv rep Z w b ms c ps) (key:List UInt8) {vs:List Value} {x:α} {c':Nat} (hx:rep.rel Z' w' vs x) (hk:∀ vs x,rep.rel Z w vs x→rep.rel Z' w' vs x)
 (hM:Mp w' b (putM key (tv vs) c ms) c') (hc:c'=if (lookM ms key).isSome then c else c+1):MpA tv rep Z' w' b (putM key (tv vs) c ms) c' (putP key x ps):=by
 obtain ⟨h1,h2⟩:=putM_stamps key (tv vs) c ms h.born h.bnd
 have hm:∀ p∈putM key (tv vs) c ms,p.2.2∈(putM key (tv vs) c ms).map (·.2.2):=λp hp=>List.mem_map_of_mem hp
 have hb:∀ x∈ms.map (·.2.2),x<c:=λx hx=>by obtain ⟨p,hp,rfl⟩:=List.mem_map.1 hx;exact h.born p hp
 refine ⟨hM,(h.rp.imp hk).put key c hx,λp hp=>?_,?_,(putM_keys key _ c ms).2 h.keys⟩
 ·have h3:=hm p hp
  cases hs:(lookM ms key).isSome with
  | true=>rw [h1 hs] at h3;rw [hc,hs];exact hb _ h3
  | false=>
   rw [h2 hs] at h3;rw [hc,hs]
   rcases List.mem_append.1 h3 with h4|h4
   ·have:=hb _ h4;simp;omega
   ·simp at h4;simp [h4]
 ·cases hs:(lookM ms key).isSome with
  | true=>rw [h1 hs];exact h.bnd
  | false=>
   rw [h2 hs,List.nodup_append];exact ⟨h.bnd,by simp,λa ha b' hb' hab=>by simp at hb';have:=hb a ha;omega⟩
def mapR (b:Nat) (tv:List Value→Value) (rep:Rep α) (ps:Kv α):Rs where
 F:=λx=>x=b
 H:=λZ w=>∃ ms c,MpA tv rep Z w b ms c ps
 keep:=fun {Z Z' w w'} ⟨ms,c,h⟩ hF hZ hZ'=>⟨ms,c,by
  refine ⟨?_,h.rp.imp λvs x hx=>rep.mono (rep.keep (rep.bd hx) λb hb hlt=>hZ b hb.1 hlt) λb hb=>hZ' b hb.1 hb.2,h.born,h.bnd,h.keys⟩;have h2:=h.mp;have:=hF b rfl h2.lt
  unfold Mp at h2 ⊢;rw [this];exact h2⟩
 lt:=λ⟨_,_,h⟩ b hb=>hb▸h.mp.lt
end
section
variable {P:Program} {f:FuncId} {n:Nat} {R:Ending→World→Prop} {k:List Item} {e:Env} {w w':World}
variable {ops:Array Oper} {i:Nat} {rest:List Nat} {d:Nat} {dst:Option Nat} {ty:TypeId} {pos:String} {af:Array Edge} {g:Option (Nat×Bool)}
variable {Z0 S:Nat→Prop} {w0:World} {L:List Rs} {α:Type} {tv:List Value→Value} {rep:Rep α} {b:Nat} {ps:Kv α}
def Lkd (w:World) (b:Nat) (key:List UInt8) (z u:Value) (is:Bool):Prop:=∃ ms c,Mp w b ms c∧(lookM ms key).getD z=u∧(lookM ms key).isSome=is
theorem Map.lkp {Z:Nat→Prop} (h:(mapR b tv rep ps).H Z w) (key:List UInt8) {zs:List Value} {zm:α} (hz:rep.rel Z w zs zm) :
 ∃ vs,Lkd w b key (tv zs) (tv vs) (lookP key ps).isSome∧rep.rel Z w vs ((lookP key ps).getD zm):=by
 obtain ⟨ms,c,h⟩:=h
 rcases h.rp.look key with ⟨h1,h2⟩|⟨vs,x,h1,h2,h3⟩
 ·exact ⟨zs,⟨ms,c,h.mp,by rw [h1];rfl,by rw [h1,h2];rfl⟩,by rw [h2];exact hz⟩
 ·exact ⟨vs,⟨ms,c,h.mp,by rw [h1];rfl,by rw [h1,h2];rfl⟩,by rw [h2];exact h3⟩
theorem V.lkpHO {t kt et:TypeId} {x y:Operand} {key:List UInt8} {z u:Value} {is:Bool} (hl:Lkd w b key z u is) (ht:P.underlying t=some (.map kt et)) (hk:P.underlying kt=some .string) (hz:∀ w,(zeroValue et).run P w=.ok z w) (hx:ev e x=some (.map (some b))) (hy:ev e y=some (Str key)) :
 OpV P n e w ⟨dst,.lookup t x y true,ty,pos,af,g⟩ (.tuple #[u,.bool is]) w:=by
 obtain ⟨ms,c,h1,h2,h3⟩:=hl;rw [← h2,← h3];exact V.lkpO ht hk hz hx hy h1
theorem V.lenMH {x:Operand} {t kt et:TypeId} (ht:P.underlying t=some (.map kt et)) (hx:ev e x=some (.map (some b))) {Z:Nat→Prop} (h:(mapR b tv rep ps).H Z w) :
 OpV P n e w ⟨dst,.call { callee:=.builtin .len,args:=#[x],argTypes:=#[t] },ty,pos,af,g⟩ (.int .i64 ps.length) w:=by
 obtain ⟨ms,c,h⟩:=h;rw [← h.rp.length];exact V.lenM ht hx h.mp
theorem Hp.muUp (hm:Hp Z0 S w0 w L) (m:Nat) (hi:L[m]?=some (mapR b tv rep ps)) {key:List UInt8} {vs:List Value} {x:α} (hx:rep.rel (Zo Z0 S w0 L) w vs x) {ms:Ms} {c c':Nat} (h:MpA tv rep (Zo Z0 S w0 L) w b ms c ps)
 (hM:Mp w' b (putM key (tv vs) c ms) c') (hF:Fr (λx=>x=b) w w') (hc:c'=if (lookM ms key).isSome then c else c+1):Hp Z0 S w0 w' (L.set m (mapR b tv rep (putP key x ps))):=by
 have hk:∀ vs x,rep.rel (Zo Z0 S w0 L) w vs x→rep.rel (λb=>Zo Z0 S w0 L b∧b<w.heap.size) w' vs x:=λvs x hx=>rep.keep (rep.bd hx) λy hy hlt=>hF.keep y hlt λhh=>hy.1.2 m _ hi hh
 exact hm.upd m _ hi hF (λy hy=>.inl hy) λZ' h1 _=>⟨_,_,h.put key (rep.mono (hk _ _ hx) λy hy=>h1 y hy.1 hy.2) (λvs x hx=>rep.mono (hk _ _ hx) λy hy=>h1 y hy.1 hy.2) hM hc⟩
theorem RH.muH {S':World→Prop} {fuel:Nat} {listed:Array Bool} {K:Act→World→Prop} {t kt et:TypeId} {x y z:Operand} {key:List UInt8} {v:α} {vs:List Value} (i:Nat) (hr:Region.ready .any ops listed=[i]) (hm:Hp Z0 S w0 w L) (m:Nat) (hi:L[m]?=some (mapR b tv rep ps)) (ho:ops[i]?=some ⟨none,.mapUpdate t x y z,ty,pos,af,g⟩) (hg:gok e ops g=true) (ht:P.underlying t=some (.map kt et)) (hk:P.underlying kt=some .string)
 (hx:ev e x=some (.map (some b))) (hy:ev e y=some (Str key)) (hz:ev e z=some (tv vs)) (hv:rep.rel (Zo Z0 S w0 L) w vs v)
 (h:∀ w',Hp Z0 S w0 w' (L.set m (mapR b tv rep (putP key v ps)))→S' w'∧RG P n K ops S' fuel (listed.setIfInBounds i true) e w'):RG P n K ops S' (fuel+1) listed e w:=by
 obtain ⟨ms,c,h0⟩:=hm.get m hi;obtain ⟨c',w',hrun,h1,h2,h3⟩:=mapUpdate_run (P:=P) key (tv vs) ht hk h0.mp;obtain ⟨h6,h7⟩:=h w' (hm.muUp m hi hv h0 h1 h2 h3);exact RH.oneU i hr ho hg rfl (λa hf=>by simp [execOp,ev_eval hf hx,ev_eval hf hy,ev_eval hf hz,hrun]) h6 h7
theorem Rn.mkMH {t:TypeId} (tv:List Value→Value) (rep:Rep α) (hm:Hp Z0 S w0 w L) (ho:ops[i]?=some ⟨some d,.makeMap t none,ty,pos,af,g⟩) (hg:gok e ops g=true) (hn:Nat.blt d n=true)
 (h:∀ b w',Hp Z0 S w0 w' (L++[mapR b tv rep ([]:Kv α)])→Rn P f n R (.inRegion ops rest::k) ((d,.map (some b))::e) w'):Rn P f n R (.inRegion ops (i::rest)::k) e w:=
 Rn.mkM ho hg hn λb w' hb h1 h2=>h b w' (hm.add _ h2 (λx hx=>by cases hx;omega) λ_ _=>⟨[],0,h1,trivial,by simp,by simp,by simp⟩)
theorem mapClone_run {gg:FuncId} {t:TypeId} {Z:Nat→Prop} (h:(mapR b tv rep ps).H Z w) :
 ∃ w',(Extern.MapsClone.clone #[.iface t (.map (some b))]).run P w=.ok (.iface t (.map (some w.heap.size))) w'∧Ext w w'∧∀ Z',(∀ x,Z x→x<w.heap.size→Z' x)→(mapR w.heap.size tv rep ps).H Z' w':=by
 obtain ⟨ms,c,h⟩:=h;refine ⟨w.alloc (.map (ms.map ent).toArray c),?_,Ext.alloc w _,λZ' hZ=>⟨ms,c,⟨heap_alloc_new w _,h.rp.imp λvs x hx=>?_,h.born,h.bnd,h.keys⟩⟩⟩
 ·show (Bind.bind (getObj b) _:Sem Value).run P w=_
  rw [Sem.run_bind,run_getObj h.mp];simp
 ·exact rep.mono (rep.keep (rep.bd hx) λy hy hlt=>(Ext.alloc w _).keep y hlt λhh=>hh) λy hy=>hZ y hy.1 hy.2
theorem V.externW {gg : FuncId} {fn : Func} {en : Array Value → Sem Value} {xs : List Operand} {vs : List Value} {ts : Array TypeId} {v : Value} (hf : P.funcs[gg]? = some fn) (hname : (fn.name == "runtime.NumGoroutine") = false) (hb : fn.body.isNone = true) (hn : Extern.findNext fn = none) (he : Extern.find fn = some en)
 (hx:evs e xs=some vs) (hr:(en vs.toArray).run P w=.ok v w'):OpV P n e w ⟨dst,.call { callee:=.value (.func gg),args:=xs.toArray,argTypes:=ts },ty,pos,af,g⟩ v w':=λa hfit=>by
 simp [execOp,resolve,Act.eval,Deferred.ofValue,invoke,evs_map hfit hx,run_callFunc_extern hf hname hb hn he,hr]
theorem V.eqlMN {x y:Operand} {p:Option Nat} {t kt et u:TypeId} (ht:P.underlying t=some (.map kt et)) (hx:ev e x=some (.map p)) (hy:ev e y=some (.map none)) :
 OpV P n e w ⟨dst,.binOp .eql t x y u,ty,pos,af,g⟩ (.bool p.isNone) w:=λc hf=>by
 simp [execOp,ev_eval hf hx,ev_eval hf hy,eqGuard_at_map,binOp,run_eq_map_nil ht]
theorem V.tasM {x:Operand} {v:Value} {t xT kt et:TypeId} (ht:P.underlying t=some (.map kt et)) (hx:ev e x=some (.iface t v)) :
 OpV P n e w ⟨dst,.typeAssert x xT t false,ty,pos,af,g⟩ v w:=λc hf=>by
 simp [execOp,ev_eval hf hx,Instr.typeAssert,run_underlying ht]
end
end Go.Wk
namespace Go.Wk
open Go Go.RowKit
section
variable {α:Type} {tv:List Value→Value} {rep:Rep α} {Z:Nat→Prop} {w:World}
end
end Go.Wk
namespace Go.Wk
open Go Go.RowKit
end Go.Wk
namespace Go.Wk
open Go Go.RowKit
section
variable {α:Type}
def leK:List UInt8→List UInt8→Bool:=λx y=>decide (x≤y)
def sortK (ps:Kv α):List (List UInt8):=(ps.map (·.1)).mergeSort leK
def keysG (ps:Kv α):Option (List (List UInt8)):=if (∀ k∈ps.map (·.1),k.length≤1000000)∧ps.length≤1000000 then some (sortK ps) else none
theorem keysGE {ps:Kv α} {ks:List (List UInt8)} (h:keysG ps=some ks):(∀ k∈ps.map (·.1),k.length≤1000000)∧ps.length≤1000000∧ks=sortK ps:=by
 unfold keysG at h
 split at h
 ·rename_i hh;exact ⟨hh.1,hh.2,(Option.some.inj h).symm⟩
 ·cases h
end
end Go.Wk
namespace Go.Wk
open Go Go.RowKit
end Go.Wk
namespace Go.Wk
open Go Go.RowKit
end Go.Wk
namespace Go.Wk
open Go Go.RowKit
end Go.Wk
namespace Go.Wk
open Go Go.RowKit
section
variable {P:Program} {f:FuncId} {n:Nat} {R:Ending→World→Prop} {k:List Item} {e:Env} {ops:Array Oper}
variable {Z0 S:Nat→Prop} {w0 w w1 w':World} {K M L:List Rs}
theorem Rn.drawF {id:Nat} (hm':P.follows .mixedOrders=true) (hm:Hp Z0 S w0 w (K++M))
 (h:∀ w1,Hp Z0 S w0 w1 (K++M)→Hp (Zo Z0 S w0 (K++M)) (LS M) w1 w1 M→RH P f n R k ops (λw'=>Fr (LS M) w1 w') ops.size (Array.replicate ops.size false) e w1):Rn P f n R (.code (.region id ops true)::k) e w:=
 Rn.draw (λw'=>Fr (LS M) w.drew w') hm' (Fr.refl _ _) (h w.drew (hm.ext (Ext.drew w)) (hm.ext (Ext.drew w)).lend.start)
theorem zo_ls {b:Nat} (h:Zo Z0 S w0 (K++M) b):¬LS M b:=λ⟨i,r,hi,hr⟩=>h.2 _ r (get_right hi) hr
def Aw (Z:Nat→Prop) (w':World) (K:List Rs):Prop:=∀ (i:Nat) r,K[i]?=some r→r.H Z w'
theorem Hp.awayK (hm:Hp Z0 S w0 w1 (K++M)) (h:Fr (LS M) w1 w'):Aw (Zo Z0 S w0 (K++M)) w' K:=λi r hi=>
 r.keep (hm.hs i r (get_left hi)) (λb hb hlt=>h.keep b hlt λ⟨j,a,hj,ha⟩=>hm.ap i (K.length+j) r a (by have:=lt_of_get hi;omega) (get_left hi) (get_right hj) b hb ha) (λb hb hlt=>h.keep b hlt (zo_ls hb)) λb hb _=>hb
theorem Aw.get {Z:Nat→Prop} (a:Aw Z w' K) (i:Nat) {r:Rs} (hi:K[i]?=some r):r.H Z w':=a i r hi
theorem Aw.getz {Z:Nat→Prop} (a:Aw Z w' K) (i:Nat) {r:Rs} (hi:K[i]?=some (fzR r)):r.H Z w':=(a i _ hi).1
end
end Go.Wk
namespace Go.Wk
open Go Go.RowKit
section
variable {P:Program} {n:Nat} {K:Act→World→Prop} {ops:Array Oper} {S:World→Prop} {fuel:Nat} {listed:Array Bool} {e:Env} {w w0:World} {d:Nat} {o:Oper} {ty:TypeId} {pos:String} {af:Array Edge} {g:Option (Nat×Bool)} {Z0 S':Nat→Prop} {L:List Rs}
def RB (P:Program) (n:Nat) (K:Act→World→Prop) (ops:Array Oper) (S:World→Prop) (fuel:Nat) (listed:Array Bool) (i:Nat) (e:Env) (w:World):Prop:=
 ∀ a:Act,a.defers=[]→Fits e n a.tmps→S w→wpOp P ops (QK K) i (λa' w'=>S w'∧wpAnyH P .any ops (QK K) S fuel (listed.setIfInBounds i true) a' w') a w
theorem RH.both (i j:Nat) (hr:Region.ready .any ops listed=[i,j]) (h1:RB P n K ops S fuel listed i e w) (h2:RB P n K ops S fuel listed j e w):RG P n K ops S (fuel+1) listed e w:=λa ha hf hS=>
 wpAnyH_all hr (by simp) λq hq=>by
  rcases List.mem_cons.1 hq with rfl|hq
  ·exact h1 a ha hf hS
  ·obtain rfl:q=j:=by simpa using hq
   exact h2 a ha hf hS
theorem RH.tri (i j k:Nat) (hr:Region.ready .any ops listed=[i,j,k]) (h1:RB P n K ops S fuel listed i e w) (h2:RB P n K ops S fuel listed j e w) (h3:RB P n K ops S fuel listed k e w):RG P n K ops S (fuel+1) listed e w:=λa ha hf hS=>
 wpAnyH_all hr (by simp) λq hq=>by
  rcases List.mem_cons.1 hq with rfl|hq
  ·exact h1 a ha hf hS
  ·rcases List.mem_cons.1 hq with rfl | hq
   ·exact h2 a ha hf hS
   ·obtain rfl:q=k:=by simpa using hq
    exact h3 a ha hf hS
theorem RB.here {i:Nat} (h:S w→RB P n K ops S fuel listed i e w):RB P n K ops S fuel listed i e w:=λa ha hf hS=>h hS a ha hf hS
theorem RB.say {t i:Nat} {u:Value} (v:Value) (hl:lk e t=some u) (hv:u=v) (h:RB P n K ops S fuel listed i ((t,v)::e) w):RB P n K ops S fuel listed i e w:=by
 subst hv;intro a ha hfit hS;exact h a ha (hfit.sub (Sub.cons hl (Sub.refl e))) hS
theorem RB.one {v:Value} {w':World} (i:Nat) (ho:ops[i]?=some o) (hg:gok e ops o.guard=true) (hd:o.dst=some d) (hn:Nat.blt d n=true) (hv:OpV P n e w o v w') (hS':S w')
 (h:RG P n K ops S fuel (listed.setIfInBounds i true) ((d,v)::e) w'):RB P n K ops S fuel listed i e w:=by
 intro a ha hf hS;unfold wpOp;simp only [ho,wanted_of_gok hf hg,if_true];refine .inl ?_;unfold Oper.wp;rw [hv a hf,Oper.upon_value,hd];exact ⟨hS',h _ (by rw [defers_put];exact ha) (fits_put hf hn v) hS'⟩
theorem RB.opC {g:FuncId} {args:Array Value} {R':Ending→World→Prop} (i:Nat) (ho:ops[i]?=some o) (hg:gok e ops o.guard=true) (hd:o.dst=some d) (hn:Nat.blt d n=true)
 (hrun:∀ a:Act,Fits e n a.tmps→(execOp a.eval o).run P w=.ok (.enter g args) w) (hc:Calls P g args w R')
 (h:∀ x w',R' x w'→∃ v,x=.returned v∧S w'∧RG P n K ops S fuel (listed.setIfInBounds i true) ((d,v)::e) w'):RB P n K ops S fuel listed i e w:=by
 intro a ha hf hS;unfold wpOp;simp only [ho,wanted_of_gok hf hg,if_true];refine .inl ?_;unfold Oper.wp;rw [hrun a hf,Oper.upon_enter]
 refine hc.mono λx w' hR=>?_
 obtain ⟨v,rfl,hS',hk⟩:=h x w' hR;rw [hd];exact ⟨hS',hk _ (by rw [defers_put];exact ha) (fits_put hf hn v) hS'⟩
theorem RB.cl {gg:FuncId} {xs:List Operand} {ts:Array TypeId} {vs:List Value} {R':Ending→World→Prop} (ck:CallOk P gg) (i:Nat)
 (ho:ops[i]?=some ⟨some d,.call { callee:=.value (.func gg),args:=xs.toArray,argTypes:=ts },ty,pos,af,g⟩) (hg:gok e ops g=true) (hn:Nat.blt d n=true)
 (hx:evs e xs=some vs) (hc:Calls P gg vs.toArray w R')
 (h:∀ x w',R' x w'→∃ v,x=.returned v∧S w'∧RG P n K ops S fuel (listed.setIfInBounds i true) ((d,v)::e) w'):RB P n K ops S fuel listed i e w:=by
 obtain ⟨fn,c,h1,h2,h3⟩:=ck
 exact RB.opC (g:=gg) (args:=vs.toArray) i ho hg rfl hn (λa hf=>by
  simp [execOp,resolve,Act.eval,Deferred.ofValue,invoke,run_callFunc h1 h2 h3,evs_map hf hx]) hc h
theorem RB.clV {gg:FuncId} {y:Operand} {cs:List Value} {xs:List Operand} {ts:Array TypeId} {vs:List Value} {R':Ending→World→Prop} (ck:CallOk P gg) (i:Nat)
 (ho:ops[i]?=some ⟨some d,.call { callee:=.value y,args:=xs.toArray,argTypes:=ts },ty,pos,af,g⟩) (hg:gok e ops g=true) (hn:Nat.blt d n=true)
 (hy:ev e y=some (.func (.func gg) #[] cs.toArray)) (hx:evs e xs=some vs) (hc:Calls P gg (vs++cs).toArray w R')
 (h:∀ x w',R' x w'→∃ v,x=.returned v∧S w'∧RG P n K ops S fuel (listed.setIfInBounds i true) ((d,v)::e) w'):RB P n K ops S fuel listed i e w:=by
 obtain ⟨fn,c,h1,h2,h3⟩:=ck
 exact RB.opC (g:=gg) (args:=(vs++cs).toArray) i ho hg rfl hn (λa hf=>by
  simp [execOp,resolve,ev_eval hf hy,Deferred.ofValue,invoke,run_callFunc h1 h2 h3,evs_map hf hx]) hc h
end
end Go.Wk
namespace Go.Wk
open Go Go.RowKit
def mkL {α:Type} (n:Int) (z:α):Option (List α):=if 0≤n∧n≤1073741824 then some (List.replicate n.toNat z) else none
theorem mkLE {α:Type} {n:Int} {z:α} {xs:List α} (h:mkL n z=some xs):∃ k:Nat,n=k∧k≤1073741824∧xs=List.replicate k z:=by
 unfold mkL at h
 split at h
 ·rename_i hh;exact ⟨n.toNat,by omega,by omega,(Option.some.inj h).symm⟩
 ·cases h
theorem made_flat (zs:List Value) (hz:0<zs.length):∀ n:Nat,(madeCells zs.toArray (n*zs.length)).toList=(List.replicate n zs).flatten
 | 0=>by simp [madeCells]
 | n+1=>by
  have ih:=made_flat zs hz n;simp only [madeCells,Array.toList_map,Array.toList_range] at ih ⊢;rw [Nat.succ_mul,List.range_add,List.map_append,ih,List.replicate_succ',List.flatten_append]
  congr 1
  simp only [List.map_map,List.flatten_cons,List.flatten_nil,List.append_nil]
  apply List.ext_getElem
  ·simp
  ·intro i h1 h2
   have hi:i<zs.length:=h2;simp only [List.getElem_map,List.getElem_range,Function.comp_def,List.size_toArray];rw [Nat.mul_comm,Nat.mul_add_mod,Nat.mod_eq_of_lt hi];simp [hi]
section
variable {P:Program} {f:FuncId} {n:Nat} {R:Ending→World→Prop} {k:List Item} {e:Env} {w:World}
variable {ops:Array Oper} {i:Nat} {rest:List Nat} {d:Nat} {ty:TypeId} {pos:String} {af:Array Edge} {g:Option (Nat×Bool)}
variable {Z0 S:Nat→Prop} {w0:World} {L:List Rs} {α:Type} {rep:Rep α}
theorem mk_run {by_:Nat} {t el:TypeId} {m:Int} {zm:α} {xs:List α} {zs:List Value} (hm:Hp Z0 S w0 w L) (hxs:mkL m zm=some xs) (ht:P.underlying t=some (.slice el)) (hel:ElOk P el rep.sz by_) (hby:Nat.ble by_ 131072=true)
 (hzc:((P.info? el).bind (·.zero)).map (·.cells)=some zs.toArray) (hrel:∀ (Z:Nat→Prop) (w:World),rep.rel Z w zs zm) :
 ∃ b w',(Instr.makeSlice t (.int .i64 m) (.int .i64 m)).run P w=.ok (.slice (some ⟨b,0,none⟩) xs.length xs.length) w'∧Ext w w'∧Hp Z0 S w0 w' (L++[ownR el (some ⟨b,0,none⟩) xs.length rep xs]):=by
 obtain ⟨q,rfl,hq,rfl⟩:=mkLE hxs;obtain ⟨inf,z,hi,hz,hs,hb,hcs,hp⟩:=hel;rw [hi] at hzc;simp only [Option.bind_some,hz,Option.map_some,Option.some.injEq] at hzc;have hzl:zs.length=rep.sz:=rep.len (hrel No w)
 have hbq:=mul_by hq hby
 have hby2:(inf.bytes:Int)*(q:Int)≤281474976710656:=by
  have h1:((q*by_:Nat):Int)≤140737488355328:=by omega
  rw [Int.natCast_mul] at h1;rw [hb,Int.mul_comm];omega
 have hr:=run_make (P:=P) w t el inf z ht hi hz .i64 .i64 q q (by omega) (Int.le_refl _) hby2 (by omega);simp only [Int.toNat_natCast] at hr
 have hcell:(madeCells z.cells (q*inf.size))=((List.replicate q zs).flatten).toArray:=by
  have:=made_flat zs (by omega) q;rw [hzc,hs,← hzl]
  apply Array.toList_inj.1
  rw [this]
 rw [hcell] at hr;refine ⟨_,_,by rw [List.length_replicate];exact hr,Ext.alloc w _,?_⟩;have hB:Blk (w.alloc (.cells ((List.replicate q zs).flatten).toArray el)) w.heap.size el (List.replicate q zs).flatten:=Blk.new w el _
 refine hm.add _ (Ext.alloc w _) (λx hx=>by cases hx;exact Nat.le_refl _) λZ _=>⟨Nat.le_refl _,by rw [List.length_replicate];unfold maxLen;omega,.inr ⟨w.heap.size,_,List.replicate q zs,rfl,Nat.zero_le _,hB,?_,by simp,λk vs x hv hx=>?_,?_⟩⟩
 ·rw [List.length_flatten];simp [hzl]
 ·rw [List.getElem?_replicate] at hv hx
  split at hv
  ·rename_i hk;rw [if_pos hk] at hx;cases hv;cases hx;exact hrel _ _
  ·cases hv
 ·rw [List.length_replicate]
  exact List.take_of_length_le (by rw [List.length_flatten];simp [hzl])
theorem RH.mkSlH {K:Act→World→Prop} {S':World→Prop} {fuel:Nat} {listed:Array Bool} {by_:Nat} {t el:TypeId} {x y:Operand} {m:Int} {zm:α} {xs:List α} {zs:List Value} (i:Nat) (hrd:Region.ready .any ops listed=[i]) (hm:Hp Z0 S w0 w L) (hxs:mkL m zm=some xs) (ho:ops[i]?=some ⟨some d,.makeSlice t x y,ty,pos,af,g⟩) (hg:gok e ops g=true) (hn:Nat.blt d n=true) (ht:P.underlying t=some (.slice el)) (hel:ElOk P el rep.sz by_) (hby:Nat.ble by_ 131072=true)
 (hzc:((P.info? el).bind (·.zero)).map (·.cells)=some zs.toArray) (hx:ev e x=some (.int .i64 m)) (hy:ev e y=some (.int .i64 m)) (hrel:∀ (Z:Nat→Prop) (w:World),rep.rel Z w zs zm)
 (h:∀ b w',Hp Z0 S w0 w' (L++[ownR el (some ⟨b,0,none⟩) xs.length rep xs])→Ext w w'→S' w'∧RG P n K ops S' fuel (listed.setIfInBounds i true) ((d,.slice (some ⟨b,0,none⟩) xs.length xs.length)::e) w'):RG P n K ops S' (fuel+1) listed e w:=by
 obtain ⟨b,w',hr,hE,hm'⟩:=mk_run hm hxs ht hel hby hzc hrel;obtain ⟨h6,h7⟩:=h b w' hm' hE;exact RH.one i hrd ho hg rfl hn (λa hf=>by simp [execOp,ev_eval hf hx,ev_eval hf hy,hr]) h6 h7
end
end Go.Wk
namespace Go.Wk
open Go Go.RowKit
section
variable {P:Program} {f:FuncId} {n:Nat} {R:Ending→World→Prop} {k:List Item} {e:Env} {w:World}
variable {ops:Array Oper} {i:Nat} {rest:List Nat} {d:Nat} {ty:TypeId} {pos:String} {af:Array Edge} {g:Option (Nat×Bool)}
variable {Z0 S:Nat→Prop} {w0:World} {L:List Rs}
end
end Go.Wk
set_option linter.unusedVariables false
set_option linter.unusedSimpArgs false
namespace Go.Wk
open Go Go.RowKit
open Go.Proofs (encStr)
section
variable {α:Type}
variable {P:Program} {tv:List Value→Value} {rep:Rep α} {Z:Nat→Prop} {w w1:World} {b c:Nat} {ms:Ms} {ps:Kv α} {kt:TypeId}
theorem key_str (hk:P.underlying kt=some .string) (k:List UInt8) (h:k.length≤1000000):keyOf P kt (Str k)=some (.string k):=by
 have:k.length≤maxLen:=by unfold maxLen;omega
 have h2:(⟨k.toArray⟩:ByteArray).size≤maxLen:=by simpa [ByteArray.size] using this
 simp [keyOf,hk,mapKey,h2]
theorem own_map (hk:P.underlying kt=some .string) {ks:List (List UInt8)} (hmp:Mp w b ms c) (hborn:∀ p∈ms,p.2.2<c) (hbnd:(ms.map (·.2.2)).Nodup) (hkeys:(ms.map (·.1)).Nodup) (hnm:ms.map (·.1)=ks) (hl:∀ k∈ks,k.length≤1000000) (hn:ks.length≤1000000) :
 ∃ D0:DataW Unit,w.ownsMap P kt (λ_=>some (.nil,[])) b ks.length D0∧Go.Maps.size D0≤1000000∧(strKeys D0).Perm ks:=by
 have hlen:ms.length=ks.length:=by rw [← hnm,List.length_map]
 have hrd:∀ p∈ms,Go.WideElems.rd P kt (λ_=>some ((.nil:DataW Unit),[])) (ent p)=some (.string p.1,.nil):=λp hp=>by
  have hk2:p.1∈ks:=by rw [← hnm];exact List.mem_map_of_mem hp
  have:=key_str hk p.1 (hl _ hk2);simp [Go.WideElems.rd,ent,this]
 refine ⟨_,⟨(ms.map ent).toArray,c,hmp,⟨by simp [maxLen];omega,?_,?_⟩,by simp;omega,rfl⟩,?_,?_⟩
 ·rw [Go.MapKept.stamped_iff]
  refine ⟨λx hx=>?_,?_,?_⟩
  ·simp at hx;obtain ⟨a,b',c',hp,rfl⟩:=hx;exact hborn _ hp
  ·simpa [Function.comp_def,ent] using hbnd
  ·simp only [List.toList_toArray,List.pairwise_map]
   have:=hkeys;rw [List.Nodup,List.pairwise_map] at this
   exact this.imp λhne hh=>hne (by simpa [ent,Str] using hh)
 ·intro x hx
  simp at hx;obtain ⟨a,b',c',hp,rfl⟩:=hx;exact ⟨_,hrd _ hp⟩
 ·simp only [Go.Maps.size]
  have:=(Go.WideShapes.sorted_perm (((ms.map ent).toArray.toList).map (Go.WideElems.rg P kt (λ_=>some ((.nil:DataW Unit),[]))))).length_eq;simp at this ⊢
  omega
 ·simp only [strKeys]
  refine ((Go.WideShapes.sorted_perm _).map _).trans ?_;simp only [List.toList_toArray,List.map_map,Function.comp_def]
  have:(ms.map λp=>strOf (Go.WideElems.rg P kt (λ_=>some ((.nil:DataW Unit),[])) (ent p)).1)=ms.map (·.1):=List.map_congr_left λp hp=>by rw [Go.WideElems.rg_of (hrd p hp)];rfl
  rw [this,hnm]
theorem flat_str:∀ ss:List (List UInt8),ss.map encStr=(ss.map λs=>[Str s]).flatten
 | []=>rfl
 | s::r=>by rw [List.map_cons,List.map_cons,List.flatten_cons,← flat_str r];rfl
theorem own_row {base e n:Nat} {v:Value} {ss:List (List UInt8)} (hn:n=ss.length) (h:w.ownsRow base e 1 v n (ss.map encStr)):∃ A c,v=.slice A ss.length c∧Own base No w e A c textR ss:=by
 subst hn;obtain ⟨_,h⟩:=h
 rcases h with ⟨rfl,h0⟩|⟨g,cap,cur,rfl,hb,hg,h1,h2,h3,h4⟩
 ·obtain rfl:=List.length_eq_zero_iff.1 h0
  exact ⟨none,0,rfl,Own.nil _ _ _ _ _⟩
 ·refine ⟨_,cap,rfl,h1,h2,.inr ⟨g,cur.toList,ss.map λs=>[Str s],rfl,hb,by unfold Blk;simpa using hg,?_,by simp,λk vs x hv hx=>?_,?_⟩⟩
  ·show cap*1≤_;rw [Array.length_toList];omega
  ·rw [List.getElem?_map,hx] at hv;cases hv;exact ⟨rfl,trivial⟩
  ·show cur.toList.take (ss.length*1)=_
   rw [h4];exact flat_str ss
theorem sorted_keysO {cS g M:Nat} (hk:P.underlying kt=some .string)
 (hS:∀ (b nn:Nat) (D0:DataW Unit) (R:Value→Option (DataW Unit×List MemPlace)) (w:World),w.ownsMap P kt R b nn D0→Go.Maps.size D0≤maxLen→Go.Maps.size D0*16≤140737488355328 →
  CallsIn Fence.wide 5 P cS #[.func (.func g) #[] #[.pointer (some ⟨w.heap.size,0,none⟩)]] (w.alloc (.cells #[.map (some b)] M)) λe w'=>∃ (v:Value) (ss:List (List UInt8)),e=.returned v∧ss.Perm (strKeys D0) ∧
   w'.ownsRow (w.alloc (.cells #[.map (some b)] M)).heap.size kt 1 v ss.length ((ss.mergeSort (λx y=>decide (x≤y))).map encStr)∧(v=.slice none 0 0↔ss=[])∧Below (w.alloc (.cells #[.map (some b)] M)).heap.size (w.alloc (.cells #[.map (some b)] M)) w')
 (hw:w1=w.alloc (.cells #[.map (some b)] M)) {ks:List (List UInt8)} (hmp:Mp w b ms c) (hborn:∀ p∈ms,p.2.2<c) (hbnd:(ms.map (·.2.2)).Nodup) (hkeys:(ms.map (·.1)).Nodup) (hnm:ms.map (·.1)=ks) (hl:∀ k∈ks,k.length≤1000000) (hn:ks.length≤1000000) :
 Calls P cS #[.func (.func g) #[] #[.pointer (some ⟨w.heap.size,0,none⟩)]] w1 λx w'=>∃ A c,x=.returned (.slice A (ks.mergeSort leK).length c)∧Own w1.heap.size No w' kt A c textR (ks.mergeSort leK)∧Ext w1 w':=by
 obtain ⟨D0,h1,h2,h3⟩:=own_map hk hmp hborn hbnd hkeys hnm hl hn;subst hw;refine (callsIn_wide.1 (hS b _ D0 _ w h1 (by unfold maxLen;omega) (by omega))).mono ?_;rintro x w' ⟨v,ss,rfl,hp,hrow,_,hB⟩;have hss:ss.mergeSort (λx y=>decide (x≤y))=ks.mergeSort leK:=mergeSort_of_perm (hp.trans h3);rw [hss] at hrow
 have hlen:ss.length=(ks.mergeSort leK).length:=by rw [← hss,List.length_mergeSort]
 obtain ⟨A,c',rfl,ho⟩:=own_row hlen hrow;exact ⟨A,c',rfl,ho,Ext.of_below hB⟩
theorem sorted_keys {cS g M:Nat} (hk:P.underlying kt=some .string)
 (hS:∀ (b nn:Nat) (D0:DataW Unit) (R:Value→Option (DataW Unit×List MemPlace)) (w:World),w.ownsMap P kt R b nn D0→Go.Maps.size D0≤maxLen→Go.Maps.size D0*16≤140737488355328 →
  CallsIn Fence.wide 5 P cS #[.func (.func g) #[] #[.pointer (some ⟨w.heap.size,0,none⟩)]] (w.alloc (.cells #[.map (some b)] M)) λe w'=>∃ (v:Value) (ss:List (List UInt8)),e=.returned v∧ss.Perm (strKeys D0) ∧
   w'.ownsRow (w.alloc (.cells #[.map (some b)] M)).heap.size kt 1 v ss.length ((ss.mergeSort (λx y=>decide (x≤y))).map encStr)∧(v=.slice none 0 0↔ss=[])∧Below (w.alloc (.cells #[.map (some b)] M)).heap.size (w.alloc (.cells #[.map (some b)] M)) w')
 (hw:w1=w.alloc (.cells #[.map (some b)] M)) (h:(mapR b tv rep ps).H Z w) {ks:List (List UInt8)} (hg:keysG ps=some ks) :
 Calls P cS #[.func (.func g) #[] #[.pointer (some ⟨w.heap.size,0,none⟩)]] w1 λx w'=>∃ A c,x=.returned (.slice A ks.length c)∧Hp All No w1 w' [ownR kt A c textR ks]:=by
 obtain ⟨hl,hn,rfl⟩:=keysGE hg;obtain ⟨ms,c,h⟩:=h;refine (sorted_keysO hk hS hw h.mp h.born h.bnd h.keys h.rp.names hl (by simpa using hn)).mono ?_;rintro x w' ⟨A,c',rfl,ho,hE⟩;refine ⟨A,c',rfl,?_⟩
 have h0:=(Hp.nil All No w1).add (ownR kt A c' textR (sortK ps)) hE (λx hx=>(ho.base x hx).1) λZ' _=>by
  have h':Own _ Z' w' kt A c' textR (sortK ps):=Own.flat text_flat ho;exact ⟨h'.1,h'.2.1,h'.2.2.imp id λ⟨g,cs,vss,h1,_,h2⟩=>⟨g,cs,vss,h1,Nat.zero_le _,h2⟩⟩
 exact h0
end
end Go.Wk
set_option linter.unusedVariables false
set_option linter.unusedSimpArgs false
namespace Go.Wk
open Go Go.RowKit
def ArOk (P:Program) (t:TypeId) (zs:List Value) (n s:Nat) (el:TypeId):Prop:=
 (∀ w,(zeroValue t).run P w=.ok (.agg zs.toArray) w)∧P.underlying t=some (.array n el)∧(∀ w,(sizeOf el).run P w=.ok s w)
theorem fill_mono (p q:Nat→Option (Nat×Nat)) (hpq:∀ i v,p i=some v→q i=some v):∀ (l:List (Nat×Value)) (cs r:Array Value),Instr.fill p cs l=some r→Instr.fill q cs l=some r
 | [],cs,r,h=>h
 | (i,v)::rest,cs,r,h=>by
  simp only [Instr.fill] at h ⊢
  cases hp:p i with
  | none=>rw [hp] at h;cases h
  | some x=>
   obtain ⟨off,size⟩:=x;rw [hpq i _ hp];rw [hp] at h;dsimp only at h ⊢
   split
   ·rename_i hc;rw [if_pos hc] at h;cases h
   ·rename_i hc;rw [if_neg hc] at h;exact fill_mono p q hpq rest _ _ h
section
variable {P:Program} {f:FuncId} {n:Nat} {e:Env} {w:World}
variable {dst:Option Nat} {ty:TypeId} {pos:String} {af:Array Edge} {g:Option (Nat×Bool)}
theorem V.bldA {t el:TypeId} {ps:Array (Nat×Operand)} {us:List Value} {zs cs:List Value} {m s:Nat} (offs:List (Nat×Nat)) (hst:ArOk P t zs m s el) (ho:∀ i v,offs[i]?=some v→v=(i*s,s)) (hx:evs e (ps.toList.map (·.2))=some us) (hf:fillL offs zs ((ps.toList.map (·.1)).zip us)=some cs) :
 OpV P n e w ⟨dst,.build t ps,ty,pos,af,g⟩ (.agg cs.toArray) w:=by
 obtain ⟨hz,hu,hs⟩:=hst
 refine V.bld hx λw=>?_
 have hfill:=fill_mono _ (λi=>some (i*s,s)) (λi v h=>by
  have h':offs[i]?=some v:=by simpa using h
  rw [ho i v h']) _ _ _ (fill_eq offs _ _ _ hf)
 simp only [Instr.build,Sem.run_bind,hz,Result.andThen_ok,run_underlying hu,hs,Value.cells];rw [hfill];simp
theorem V.arE {t el:TypeId} {x y:Operand} {zs cs:List Value} {m s:Nat} {i:Int} {kd:IntKind} {v:Value} (hst:ArOk P t zs m s el) (ha:∀ w,(isAgg el).run P w=.ok true w) (hx:ev e x=some (.agg cs.toArray)) (hy:ev e y=some (.int kd i)) (h0:0≤i∧i<m)
 (hv:Value.agg (cs.toArray.extract (i.toNat*s) (i.toNat*s+s))=v):OpV P n e w ⟨dst,.index t x y,ty,pos,af,g⟩ v w:=λb hf=>by
 obtain ⟨_,hu,hs⟩:=hst;subst hv;simp [execOp,ev_eval hf hx,ev_eval hf hy,Instr.index,asIntOf,run_underlying hu,h0.1,h0.2,part,ha,hs]
end
section
variable {α β:Type} {rep:Rep β} {Z0 S:Nat→Prop} {w0 w:World} {L:List Rs}
theorem Hp.idx2 {x0 x1 z:α} {i:Int} {A0 A1:Option Addr} {c0 c1:Nat} (cnt:α→List β) (he:idx [x0,x1] i=some z) (hm:Hp Z0 S w0 w L) (i0 i1:Nat) (h0:L[i0]?=some (slR A0 c0 rep (cnt x0))) (h1:L[i1]?=some (slR A1 c1 rep (cnt x1))) :
 ∃ A c,Hp Z0 S w0 w (L++[slR A c rep (cnt z)])∧((i=0∧A=A0∧c=c0∧z=x0)∨(i=1∧A=A1∧c=c1∧z=x1)):=by
 unfold idx at he
 split at he
 ·rename_i hi
  obtain ⟨k,rfl⟩:∃ k:Nat,i=k:=⟨i.toNat,by omega⟩;rw [Int.toNat_natCast] at he
  match k,he with
  | 0,he=>
   obtain rfl:x0=z:=by simpa using he
   exact ⟨A0,c0,by have:=hm.dup i0 h0 (λ_ h=>h);exact this,.inl ⟨rfl,rfl,rfl,rfl⟩⟩
  | 1,he=>
   obtain rfl:x1=z:=by simpa using he
   exact ⟨A1,c1,by have:=hm.dup i1 h1 (λ_ h=>h);exact this,.inr ⟨rfl,rfl,rfl,rfl⟩⟩
  | k+2,he=>simp at he
 ·cases he
end
end Go.Wk
namespace Go.Wk
open Go Go.RowKit
theorem offs_range (n s:Nat):∀ (i:Nat) v,((List.range n).map λi=>(i*s,s))[i]?=some v→v=(i*s,s):=by
 intro i v h;rw [List.getElem?_map] at h
 cases hi:(List.range n)[i]? with
 | none=>rw [hi] at h;cases h
 | some k=>
  rw [hi] at h
  have:k=i:=by
   have h2:=List.getElem?_eq_some_iff.1 hi;obtain ⟨hl,h3⟩:=h2;rw [List.getElem_range] at h3;exact h3.symm
  subst this;exact (Option.some.inj h).symm
theorem idx_bd {α:Type} {l:List α} {i:Int} {z:α} {m:Nat} (h:idx l i=some z) (hl:l.length=m):0≤i∧i<m:=by
 unfold idx at h
 split at h
 ·have:=(List.getElem?_eq_some_iff.1 h).1;omega
 ·cases h
end Go.Wk
namespace Go.Wk
open Go Go.RowKit
def cry (a b:UInt64):UInt64:=if 18446744073709551616≤a.toNat+b.toNat then 1 else 0
theorem cry_nat (a b:UInt64):((cry a b).toNat:Int)=((a.toNat:Int)+b.toNat+0)/18446744073709551616:=by
 have h1:=a.toNat_lt;have h2:=b.toNat_lt;unfold cry
 split
 ·show ((1:Nat):Int)=_;omega
 ·show ((0:Nat):Int)=_;omega
theorem add_nat (a b:UInt64):((a+b).toNat:Int)=((a.toNat:Int)+b.toNat+0)%18446744073709551616:=by
 rw [UInt64.toNat_add];omega
section
variable {P:Program} {n:Nat} {e:Env} {w:World}
variable {dst:Option Nat} {ty:TypeId} {pos:String} {af:Array Edge} {g:Option (Nat×Bool)}
theorem V.add64 {gg : FuncId} {fn : Func} {xs : List Operand} {ts : Array TypeId} {a b : UInt64} (hf : P.funcs[gg]? = some fn) (hname : (fn.name == "runtime.NumGoroutine") = false) (hb : fn.body.isNone = true) (hn : Extern.findNext fn = none) (he : Extern.find fn = some Go.add64Entry)
 (hx:evs e xs=some [.int .u64 ((a.toNat:Nat):Int),.int .u64 ((b.toNat:Nat):Int),.int .u64 0]):OpV P n e w ⟨dst,.call { callee:=.value (.func gg),args:=xs.toArray,argTypes:=ts },ty,pos,af,g⟩ (.tuple #[.int .u64 (((a+b).toNat:Nat):Int),.int .u64 (((cry a b).toNat:Nat):Int)]) w:=by
 refine V.externW hf hname hb hn he hx ?_;rw [cry_nat,add_nat];exact Go.run_add64 _ _ _ (by omega) (by omega) (by omega) (by omega) w
end
end Go.Wk
namespace Go.Wk
open Go Go.RowKit
abbrev Flt (u:UInt64):Value:=.float .f64 u.toNat
def fltLt (a b:UInt64):Bool:=FloatKind.f64.format.order a.toNat b.toNat==some .lt
section
variable {P:Program} {n:Nat} {e:Env} {w:World}
variable {dst:Option Nat} {ty:TypeId} {pos:String} {af:Array Edge} {g:Option (Nat×Bool)}
theorem V.lssF {x y:Operand} {a b:UInt64} {t u:TypeId} (hx:ev e x=some (Flt a)) (hy:ev e y=some (Flt b)) :
 OpV P n e w ⟨dst,.binOp .lss t x y u,ty,pos,af,g⟩ (.bool (fltLt a b)) w:=
 λc hf=>by simp [execOp,ev_eval hf hx,ev_eval hf hy,eqGuard,binOp,Op.floatCmp,fltLt]
theorem V.fltOf {gg : FuncId} {fn : Func} {xs : List Operand} {ts : Array TypeId} {a : UInt64} (hf : P.funcs[gg]? = some fn) (hname : (fn.name == "runtime.NumGoroutine") = false) (hb : fn.body.isNone = true) (hn : Extern.findNext fn = none) (he : Extern.find fn = some Extern.MathFloatBits.float64frombits)
 (hx:evs e xs=some [.int .u64 ((a.toNat:Nat):Int)]):OpV P n e w ⟨dst,.call { callee:=.value (.func gg),args:=xs.toArray,argTypes:=ts },ty,pos,af,g⟩ (Flt a) w:=
 V.externW hf hname hb hn he hx rfl
end
end Go.Wk
namespace Go.Wk
open Go Go.RowKit
theorem b64_and (t:TypeId) (u v:UInt64):binOp .and t (.int .u64 u.toNat) (.int .u64 v.toNat)=pure (.int .u64 (u&&&v).toNat):=by
 rw [binOp_and,intBits_and];congr 2
 have h1:BitVec.ofInt 64 (u.toNat:Int)=u.toBitVec:=by apply BitVec.eq_of_toNat_eq;simp
 have h2:BitVec.ofInt 64 (v.toNat:Int)=v.toBitVec:=by apply BitVec.eq_of_toNat_eq;simp
 show IntKind.u64.wrap ((BitVec.ofInt 64 (u.toNat:Int)&&&BitVec.ofInt 64 (v.toNat:Int)).toNat:Int)=_;rw [h1,h2,wu64 (by omega) (by have:=(u.toBitVec&&&v.toBitVec).isLt;omega)];simp
theorem b64_xor (t:TypeId) (u v:UInt64):binOp .xor t (.int .u64 u.toNat) (.int .u64 v.toNat)=pure (.int .u64 (u^^^v).toNat):=by
 rw [binOp_xor,intBits_xor];congr 2
 have h1:BitVec.ofInt 64 (u.toNat:Int)=u.toBitVec:=by apply BitVec.eq_of_toNat_eq;simp
 have h2:BitVec.ofInt 64 (v.toNat:Int)=v.toBitVec:=by apply BitVec.eq_of_toNat_eq;simp
 show IntKind.u64.wrap ((BitVec.ofInt 64 (u.toNat:Int)^^^BitVec.ofInt 64 (v.toNat:Int)).toNat:Int)=_;rw [h1,h2,wu64 (by omega) (by have:=(u.toBitVec^^^v.toBitVec).isLt;omega)];simp
end Go.Wk
set_option linter.unusedVariables false
set_option linter.unusedSimpArgs false
namespace Go.Wk
open Go Go.RowKit
theorem byteCells_eq (ys:List UInt8):byteCells ⟨ys.toArray⟩=ys.map λb=>Value.int .u8 b.toNat:=by simp [byteCells]
section
variable {P:Program} {w:World}
theorem run_append_room_s (t tx ty e:TypeId) (i:TypeInfo) (ht:P.underlying t=some (.slice e)) (htx:P.underlying tx=some .string) (hi:P.info? e=some i) (h1s:i.size=1)
 (g sLen sCap:Nat) (cur:Array Value) (hg:w.heap[g]?=some (.cells cur e (0,0))) (ys:List UInt8)
 (hroom:sLen+ys.length≤sCap) (hfit:sLen+ys.length≤cur.size) :
 (Builtin.append_ #[t,tx] ty #[.slice (some ⟨g,0,none⟩) sLen sCap,Str ys]).run P w =
  .ok (.slice (some ⟨g,0,none⟩) (sLen+ys.length) sCap) (w.setRow g (cur.toList.take sLen++(ys.map λb=>Value.int .u8 b.toNat)++cur.toList.drop (sLen+ys.length)).toArray):=by
 have hs:=firstCells_string (P:=P) ⟨ys.toArray⟩ w;rw [byteCells_eq] at hs
 have hsz:(⟨ys.toArray⟩:ByteArray).size=ys.length:=by simp [ByteArray.size]
 rw [hsz] at hs
 have hst:=run_storeCells_at P g (sLen*1) e (ys.map λb=>Value.int .u8 b.toNat) 0 cur w hg (by simpa using hfit) (λu hu=>by
  obtain ⟨_,_,rfl⟩:=List.mem_map.1 hu;rfl)
 simp only [Nat.add_zero,Nat.mul_one] at hst;simp [Builtin.append_,run_underlying ht,run_underlying htx,sizeOf,typeInfo,hi,h1s,Builtin.lenOf,hsz,hroom,hs,Addr.add_lit,hst]
end
end Go.Wk
namespace Go.Wk
open Go Go.RowKit
theorem flat_one {α β:Type} (v:α→β):∀ ys:List α,(ys.map λb=>[v b]).flatten=ys.map v
 | []=>rfl
 | a::r=>by rw [List.map_cons,List.flatten_cons,flat_one v r];rfl
theorem app_runS {P:Program} {w:World} {B by_:Nat} {D:Nat→Prop} {t tx el:TypeId} {A:Option Addr} {c:Nat} {xs ys:List UInt8}
 (ht:P.underlying t=some (.slice el)) (htx:P.underlying tx=some .string) (hel:ElOk P el byteR.sz by_)
 (hO:Own B D w el A c byteR xs) (hB:B≤w.heap.size) (hlen:xs.length+ys.length≤4294967296) (hby:(xs.length+ys.length)*by_≤140737488355328) (ty:TypeId) :
 ∃ A2 c2 w',(Builtin.append_ #[t,tx] ty #[.slice A xs.length c,Str ys]).run P w=.ok (.slice A2 (xs.length+ys.length) c2) w'∧Fr (λb=>ob A b) w w'∧(∀ b,ob A2 b→ob A b∨b=w.heap.size) ∧
  ((∀ b,D b→¬ob A b)→Own B D w' el A2 c2 byteR (xs++ys)):=by
 obtain ⟨inf,z,hi,hz,hsz,hbt,hzs,hpos⟩:=hel;have h1:byteR.sz=1:=rfl
 have hsz1:inf.size=1:=by rw [hsz,h1]
 have hl2:(xs++ys).length=xs.length+ys.length:=List.length_append
 let uss:List (List Value):=ys.map λb=>[Value.int .u8 b.toNat]
 have hul:uss.length=ys.length:=by simp [uss]
 have hur:∀ (w':World) (k:Nat) (vs:List Value) (x:UInt8),uss[k]?=some vs→ys[k]?=some x→byteR.rel D w' vs x:=by
  intro w' k vs x hv hx;simp only [uss,List.getElem?_map,hx,Option.map_some,Option.some.injEq] at hv;subst hv;exact ⟨rfl,trivial⟩
 have hufl:uss.flatten=ys.map λb=>Value.int .u8 b.toNat:=flat_one _ ys
 have huflen:uss.flatten.length=ys.length:=by rw [hufl,List.length_map]
 have hsrc:Go.Src P inf.size tx (Str ys) ys.length uss.flatten w:=by
  have:=Src.ofString (P:=P) (w:=w) htx ⟨ys.toArray⟩;rw [byteCells_eq] at this
  have hs2:(⟨ys.toArray⟩:ByteArray).size=ys.length:=by simp [ByteArray.size]
  rw [hs2] at this;rw [hsz1,hufl];exact this
 have made:∀ (old:Nat) (vss:List (List Value)),old<xs.length+ys.length→vss.length=xs.length→(∀ (k:Nat) (vs:List Value) (x:UInt8),vss[k]?=some vs→xs[k]?=some x→byteR.rel D w vs x) →
  let w2:=w.drew.alloc (.cells ((vss.flatten++uss.flatten).toArray++Builtin.zeroCells z.cells (grownCap w (xs.length+ys.length) old el-(xs.length+ys.length))) el)
  Ext w w2∧Own B D w2 el (some ⟨w.heap.size,0,none⟩) (grownCap w (xs.length+ys.length) old el) byteR (xs++ys):=by
  intro old vss ho hvl hvr;have hge:=grownCap_ge w (xs.length+ys.length) old el;have hcm:grownCap w (xs.length+ys.length) old el≤maxLen:=grownCap_le_maxLen w (xs.length+ys.length) old el (by simp only [maxLen];omega);have hE:Ext w (w.drew.alloc (.cells ((vss.flatten++uss.flatten).toArray++Builtin.zeroCells z.cells (grownCap w (xs.length+ys.length) old el-(xs.length+ys.length))) el)):=(Ext.drew w).trans (Ext.alloc _ _)
  have hvfl:vss.flatten.length=xs.length:=by rw [length_flat byteR.sz vss (lens_of hvl hvr),hvl,h1,Nat.mul_one]
  refine ⟨hE,by rw [hl2];exact hge,hcm,.inr ⟨w.heap.size,vss.flatten++uss.flatten++(Builtin.zeroCells z.cells (grownCap w (xs.length+ys.length) old el-(xs.length+ys.length))).toList,vss++uss,rfl,hB,?_,?_,by simp [hvl,hul],?_,?_⟩⟩
  ·have:=heap_alloc_new w.drew (.cells ((vss.flatten++uss.flatten).toArray++Builtin.zeroCells z.cells (grownCap w (xs.length+ys.length) old el-(xs.length+ys.length))) el)
   unfold Blk
   have e1:(vss.flatten++uss.flatten).toArray++Builtin.zeroCells z.cells (grownCap w (xs.length+ys.length) old el-(xs.length+ys.length))=(vss.flatten++uss.flatten++(Builtin.zeroCells z.cells (grownCap w (xs.length+ys.length) old el-(xs.length+ys.length))).toList).toArray:=by
    apply Array.ext';simp
   rw [← e1];exact this
  ·simp only [List.length_append,Array.length_toList,size_zeroCells,hzs,hvfl,huflen,h1]
   omega
  ·intro k vs x hv hx
   rcases Nat.lt_or_ge k xs.length with hk|hk
   ·rw [List.getElem?_append_left (by omega)] at hv
    rw [List.getElem?_append_left hk] at hx;exact Rep.ext (hvr k vs x hv hx) hE
   ·rw [List.getElem?_append_right (by omega)] at hv
    rw [List.getElem?_append_right hk] at hx;rw [hvl] at hv;exact hur _ _ vs x hv hx
  ·rw [hl2,List.flatten_append,h1,Nat.mul_one,← hvfl,← huflen,← List.length_append,List.take_left]
 rcases hO.2.2 with ⟨rfl,hc0⟩|⟨gb,cs,vss,rfl,hg1,hg2,hg3,hg4,hg5,hg6⟩
 ·have hx:xs=[]:=List.eq_nil_of_length_eq_zero (by have:=hO.1;omega)
  subst hx hc0
  by_cases hne:ys=[]
  ·subst hne
   refine ⟨none,0,w,?_,Fr.refl _ _,λb hb=>.inl hb,λ_=>hO⟩;simp [Builtin.append_,run_underlying ht,run_underlying htx,sizeOf,typeInfo,hi,hsz1,Builtin.lenOf,Builtin.firstCells];exact (if_pos (show (⟨([]:List UInt8).toArray⟩:ByteArray)=ByteArray.empty from rfl)).trans rfl
  ·have hm0:0<ys.length:=List.length_pos_iff.2 hne
   have hr:=run_append_grow_src (P:=P) w t tx ty el inf z ht hi hz none 0 0 [] (by simp [Builtin.firstCells]) (Str ys) ys.length uss.flatten hsrc (by omega) (by omega) (by rw [hbt,Nat.zero_add,nextslicecap_zero hm0];have:=hby;simp only [List.length_nil,Nat.zero_add] at this;omega);obtain ⟨hE,hown⟩:=made 0 [] (by simp;omega) rfl (λk vs x hv=>by simp at hv);simp only [List.length_nil,Nat.zero_add,List.flatten_nil,List.nil_append] at hE hown hr ⊢;exact ⟨_,_,_,hr,Ext.fr hE,λx hx=>.inr (by cases hx;rfl),λ_=>hown⟩
 ·rw [h1,Nat.mul_one] at hg3 hg6
  have hvfl:vss.flatten.length=xs.length:=by rw [length_flat byteR.sz vss (lens_of hg4 hg5),hg4,h1,Nat.mul_one]
  by_cases hroom:xs.length+ys.length≤c
  ·have hr:=run_append_room_s (P:=P) t tx ty el inf ht htx hi hsz1 gb xs.length c cs.toArray hg2 ys hroom (by simpa using Nat.le_trans hroom hg3)
   have hF:Fr (λx=>ob (some ⟨gb,0,none⟩) x) w (w.setRow gb (cs.toArray.toList.take xs.length++(ys.map λb=>Value.int .u8 b.toNat)++cs.toArray.toList.drop (xs.length+ys.length)).toArray):=
    ⟨rfl,rfl,rfl,by simp,λx hx hn=>setRow_other w gb x _ (λe=>hn (by rw [e];rfl))⟩
   refine ⟨_,_,_,hr,hF,λx hx=>.inl hx,λhD=>⟨by rw [hl2];exact hroom,hO.2.1,.inr ⟨gb,_,vss++uss,rfl,hg1,setRow_heap w gb _ _ el _ hg2,?_,by simp [hg4,hul],?_,?_⟩⟩⟩
   ·simp only [List.toList_toArray,List.length_append,List.length_take,List.length_drop,List.length_map,h1];omega
   ·intro k vs x hv hx
    rcases Nat.lt_or_ge k xs.length with hk|hk
    ·rw [List.getElem?_append_left (by omega)] at hv
     rw [List.getElem?_append_left hk] at hx;exact Rep.fr (hg5 k vs x hv hx) hF hD
    ·rw [List.getElem?_append_right (by omega)] at hv
     rw [List.getElem?_append_right hk] at hx;rw [hg4] at hv;exact hur _ _ vs x hv hx
   ·simp only [List.toList_toArray]
    rw [hl2,List.flatten_append,hg6,h1,Nat.mul_one,← hufl,← hvfl,← huflen,← List.length_append,List.take_left]
  ·have holds:(Builtin.firstCells inf.size xs.length (.slice (some ⟨gb,0,none⟩) xs.length c)).run P w.drew=.ok vss.flatten.toArray w.drew:=by
    refine run_firstCells_some (P:=P) w.drew inf.size xs.length ⟨gb,0,none⟩ xs.length c vss.flatten (by rw [hsz1,hvfl,Nat.mul_one]) λj u hj=>?_
    rw [← hg6,List.getElem?_take] at hj
    split at hj
    ·have hdr:w.drew.cell? ⟨gb,j,none⟩=w.cell? ⟨gb,j,none⟩:=rfl
     rw [Addr.add_none,Nat.zero_add,hdr,hg2.cell];exact hj
    ·cases hj
   have hr:=run_append_grow_src (P:=P) w t tx ty el inf z ht hi hz (some ⟨gb,0,none⟩) xs.length c vss.flatten holds (Str ys) ys.length uss.flatten hsrc (by omega) (by omega) (growslice_fits (by omega) (by rw [hbt];exact hby));obtain ⟨hE,hown⟩:=made c vss (by omega) hg4 hg5;exact ⟨_,_,_,hr,Ext.fr hE,λx hx=>.inr (by cases hx;rfl),λ_=>hown⟩
end Go.Wk
namespace Go.Wk
open Go Go.RowKit
section
variable {P:Program} {f:FuncId} {n:Nat} {R:Ending→World→Prop} {k:List Item} {e:Env} {w w0:World}
variable {ops:Array Oper} {i:Nat} {rest:List Nat} {d:Nat} {ty:TypeId} {pos:String} {af:Array Edge} {g:Option (Nat×Bool)}
variable {Z0 S:Nat→Prop} {L:List Rs}
theorem Rn.appSH {by_:Nat} {t tx el:TypeId} {x y:Operand} {A:Option Addr} {c:Nat} {xs ys zs:List UInt8}
 (hm:Hp Z0 S w0 w L) (m:Nat) (hi:L[m]?=some (ownR el A c byteR xs)) (hzs:appL xs ys=some zs)
 (ho:ops[i]?=some ⟨some d,.call { callee:=.builtin .append,args:=#[x,y],argTypes:=#[t,tx] },ty,pos,af,g⟩) (hg:gok e ops g=true) (hn:Nat.blt d n=true)
 (ht:P.underlying t=some (.slice el)) (htx:P.underlying tx=some .string) (hel:ElOk P el byteR.sz by_) (hby:Nat.ble by_ 131072=true) (hx:ev e x=some (.slice A xs.length c)) (hy:ev e y=some (Str ys))
 (h:∀ A2 c2 w',Hp Z0 S w0 w' (L.set m (ownR el A2 c2 byteR zs))→Rn P f n R (.inRegion ops rest::k) ((d,.slice A2 zs.length c2)::e) w'):Rn P f n R (.inRegion ops (i::rest)::k) e w:=by
 obtain ⟨hle,rfl⟩:=appE hzs;have h0:=hm.get m hi;have hO:Own 0 (λb=>Zo Z0 S w0 L b∧b<w.heap.size) w el A c byteR xs:=Own.bd h0;obtain ⟨A2,c2,w',hr,hF,hob,hown⟩:=app_runS (P:=P) ht htx hel hO (Nat.zero_le _) (by omega) (mul_by hle hby) ty;have hO2:=hown (λb hb hob=>hb.1.2 m _ hi hob);refine Rn.opV (v:=.slice A2 (xs.length+ys.length) c2) (w':=w') ho hg rfl hn (λa hf=>by simp [execOp,resolve,invoke,builtin,ev_eval hf hx,ev_eval hf hy,hr]) ?_;have:=h A2 c2 w' (hm.upd m _ hi hF (λx hx=>(hob x hx).imp id λhh=>by omega) λZ' h1 _=>hO2.mono λb hb=>h1 b hb.1 hb.2);rw [List.length_append] at this;exact this
end
end Go.Wk
set_option linter.unusedVariables false
set_option linter.unusedSimpArgs false
namespace Go.Wk
open Go Go.RowKit
def FoL (P:Program):List Field→List Nat→Prop
 | [],[]=>True
 | fd::fs,o::os=>(∃ sz,(∀ w,(sizeOf fd.type).run P w=.ok sz w)∧Nat.beq sz 0=false)∧fd.offset=o∧FoL P fs os
 | _,_=>False
def FoOk (P:Program) (s:TypeId) (offs:List Nat):Prop:=∃ fs:Array Field,P.underlying s=some (.struct fs)∧FoL P fs.toList offs
theorem FoL.at {P:Program}:∀ {fs:List Field} {os:List Nat} {m o:Nat},FoL P fs os→os[m]?=some o→∃ fd sz,fs[m]?=some fd∧(∀ w,(sizeOf fd.type).run P w=.ok sz w)∧Nat.beq sz 0=false∧fd.offset=o
 | [],[],m,o,_,h=>by simp at h
 | [],_::_,_,_,h,_=>h.elim
 | _::_,[],_,_,h,_=>h.elim
 | fd::fs,q::os,0,o,⟨⟨sz,h1,h2⟩,h3,_⟩,h=>by simp at h;subst h;exact ⟨fd,sz,rfl,h1,h2,h3⟩
 | fd::fs,q::os,m+1,o,⟨_,_,hr⟩,h=>by
  have:=FoL.at (m:=m) hr (by simpa using h);simpa using this
def lkD:List (Nat×List Nat)→Nat→Option (List Nat)
 | [],_=>none
 | p::r,t=>bif Nat.beq p.1 t then some p.2 else lkD r t
def TabOk (P:Program) (D:List (Nat×List Nat)):Prop:=∀ s offs,lkD D s=some offs→FoOk P s offs
theorem TabOk.nil {P:Program}:TabOk P []:=λ_ _ h=>by cases h
theorem TabOk.cons {P:Program} {D:List (Nat×List Nat)} {s:Nat} {offs:List Nat} (h:FoOk P s offs) (hr:TabOk P D):TabOk P ((s,offs)::D):=λt o ht=>by
 simp only [lkD] at ht
 cases hb:Nat.beq s t with
 | true=>rw [hb] at ht;cases ht;rw [← Nat.eq_of_beq_eq_true hb];exact h
 | false=>rw [hb] at ht;exact hr t o ht
def zop:BinOp→Int→Int→Option Value
 | .add,a,b=>some (.int .i64 (W64 (a+b)))
 | .sub,a,b=>some (.int .i64 (W64 (a-b)))
 | .mul,a,b=>some (.int .i64 (W64 (a*b)))
 | .lss,a,b=>some (.bool (decide (a<b)))
 | .leq,a,b=>some (.bool (decide (a≤b)))
 | .gtr,a,b=>some (.bool (decide (a>b)))
 | .geq,a,b=>some (.bool (decide (a≥b)))
 | .eql,a,b=>some (.bool (decide (a=b)))
 | .neq,a,b=>some (.bool (decide (a≠b)))
 | _,_,_=>none
def pop (D:List (Nat×List Nat)) (e:Env):Op→Option Value
 | .move x=>ev e x
 | .assign x=>ev e x
 | .nilCheck x=>match ev e x with
  | some (.pointer (some p))=>some (.pointer (some p))
  | _=>none
 | .fieldAddr s x m=>match ev e x with
  | some (.pointer (some ⟨b,o,none⟩))=>match lkD D s with
   | some offs=>match offs[m]? with
    | some off=>some (.pointer (some ⟨b,o+off,none⟩))
    | none=>none
   | none=>none
  | _=>none
 | .pick c x y=>match ev e c with
  | some (.bool true)=>ev e x
  | some (.bool false)=>ev e y
  | _=>none
 | .extract x j=>match ev e x with
  | some (.tuple vs)=>vs[j]?
  | _=>none
 | .binOp b _ x y _=>match ev e x with
  | some (.int .i64 a)=>match ev e y with
   | some (.int .i64 c)=>zop b a c
   | _=>none
  | _=>none
 | _=>none
theorem pop_ok {P:Program} {D:List (Nat×List Nat)} (hD:TabOk P D) {n:Nat} {e:Env} {w:World} {o:Oper} {v:Value} (h:pop D e o.op=some v):OpV P n e w o v w:=by
 obtain ⟨dst,op,ty,pos,af,g⟩:=o;simp only at h;unfold pop at h
 split at h
 ·exact V.mv h
 ·exact V.as h
 ·split at h
  ·rename_i hp;cases h;exact V.nil hp
  ·cases h
 ·split at h
  ·rename_i hp
   split at h
   ·rename_i offs ho
    split at h
    ·rename_i off hoff
     cases h
     obtain ⟨fs,h1,h2⟩:=hD _ _ ho;obtain ⟨fd,sz,h3,h4,h5,rfl⟩:=h2.at hoff;exact V.fa h1 (by simpa using h3) h4 h5 hp
    ·cases h
   ·cases h
  ·cases h
 ·split at h
  ·rename_i hp;exact V.pkT hp h
  ·rename_i hp;exact V.pkF hp h
  ·cases h
 ·split at h
  ·rename_i hp;exact V.ext hp h
  ·cases h
 ·split at h
  ·rename_i hx
   split at h
   ·rename_i hy
    unfold zop at h
    split at h<;>first | cases h | skip
    ·exact V.addW hx hy
    ·exact V.subW hx hy
    ·exact V.mulW hx hy
    ·exact V.lss hx hy
    ·exact V.leq hx hy
    ·exact V.gtr hx hy
    ·exact V.geq hx hy
    ·exact V.eql hx hy
    ·exact V.neq hx hy
   ·cases h
  ·cases h
 ·cases h
def sr (D:List (Nat×List Nat)) (n:Nat):Nat→List Item→Env→Option (List Item×Env)
 | 0,k,e=>some (k,e)
 | m+1,k,e=>match k with
  | .code c::k=>match c with
   | .skip=>sr D n m k e
   | .label _=>sr D n m k e
   | .seq x y=>sr D n m (.code x::.code y::k) e
   | .block id c=>sr D n m (.code c::.inBlock id::k) e
   | .scope c=>sr D n m (.code c::.inScope c::k) e
   | .exit id=>match exitTo id k with
    | some k'=>sr D n m k' e
    | none=>none
   | .goto l=>match gotoIn l k with
    | some k'=>sr D n m k' e
    | none=>none
   | .region _ ops false=>sr D n m (.inRegion ops (List.range ops.size)::k) e
   | .cond c x y=>match ev e c with
    | some (.bool true)=>sr D n m (.code x::k) e
    | some (.bool false)=>sr D n m (.code y::k) e
    | _=>none
   | _=>none
  | .inBlock _::k=>sr D n m k e
  | .inScope _::k=>sr D n m k e
  | .inRegion _ []::k=>sr D n m k e
  | .inRegion ops (i::rest)::k=>match ops[i]? with
   | some o=>match o.dst with
    | some d=>bif Nat.blt d n then (bif gok e ops o.guard then (match pop D e o.op with
     | some v=>sr D n m (.inRegion ops rest::k) ((d,v)::e)
     | none=>none)
     else bif gno e ops o.guard then sr D n m (.inRegion ops rest::k) ((d,undef)::e) else none) else none
    | none=>bif gno e ops o.guard then sr D n m (.inRegion ops rest::k) e else none
   | none=>none
  | _=>none
theorem sr_ok {P:Program} {D:List (Nat×List Nat)} (hD:TabOk P D) {f:FuncId} {n:Nat} {R:Ending→World→Prop} {w:World}:∀ (m:Nat) (k:List Item) (e:Env) {k':List Item} {e':Env},sr D n m k e=some (k',e')→Rn P f n R k' e' w→Rn P f n R k e w:=by
 intro m
 induction m with
 | zero=>intro k e k' e' h hr;simp only [sr] at h;cases h;exact hr
 | succ m ih=>
  intro k e k' e' h hr;simp only [sr] at h
  split at h
  ·split at h
   ·exact Rn.skip (ih _ _ h hr)
   ·exact Rn.label (ih _ _ h hr)
   ·exact Rn.seq (ih _ _ h hr)
   ·exact Rn.block (ih _ _ h hr)
   ·exact Rn.scope (ih _ _ h hr)
   ·split at h
    ·rename_i hk;exact Rn.exit hk (ih _ _ h hr)
    ·cases h
   ·split at h
    ·rename_i hk;exact Rn.goto hk (ih _ _ h hr)
    ·cases h
   ·exact Rn.reg (ih _ _ h hr)
   ·split at h
    ·rename_i hk;exact Rn.condT hk (ih _ _ h hr)
    ·rename_i hk;exact Rn.condF hk (ih _ _ h hr)
    ·cases h
   ·cases h
  ·exact Rn.inBlock (ih _ _ h hr)
  ·exact Rn.inScope (ih _ _ h hr)
  ·exact Rn.regEnd (ih _ _ h hr)
  ·split at h
   ·rename_i o ho
    split at h
    ·rename_i d hd
     cases hn:Nat.blt d n with
     | false=>rw [hn] at h;cases h
     | true=>
      rw [hn] at h
      cases hg:gok e _ o.guard with
      | true=>
       rw [hg] at h;simp only [cond_true] at h
       split at h
       ·rename_i v hv;exact Rn.v ho hg hd hn (pop_ok hD hv) (ih _ _ h hr)
       ·cases h
      | false=>
       rw [hg] at h;simp only [cond_true,cond_false] at h
       cases hg':gno e _ o.guard with
       | true=>rw [hg'] at h;exact Rn.no ho hg' hd hn (ih _ _ h hr)
       | false=>rw [hg'] at h;cases h
    ·rename_i hd
     cases hg':gno e _ o.guard with
     | true=>rw [hg'] at h;exact Rn.noU ho hg' hd (ih _ _ h hr)
     | false=>rw [hg'] at h;cases h
   ·cases h
  ·cases h
def ft (n:Nat) (ops:Array Oper) (i:Nat) (e:Env):Option (Oper×Nat):=match ops[i]? with
 | some o=>match o.dst with
  | some d=>bif Nat.blt d n then (bif gok e ops o.guard then some (o,d) else none) else none
  | none=>none
 | none=>none
theorem ft_ok {n:Nat} {ops:Array Oper} {i:Nat} {e:Env} {o:Oper} {d:Nat} (h:ft n ops i e=some (o,d)):ops[i]?=some o∧gok e ops o.guard=true∧o.dst=some d∧Nat.blt d n=true:=by
 unfold ft at h
 split at h
 ·rename_i o' ho
  split at h
  ·rename_i d' hd
   cases hn:Nat.blt d' n with
   | false=>rw [hn] at h;cases h
   | true=>
    cases hg:gok e ops o'.guard with
    | false=>rw [hn,hg] at h;cases h
    | true=>rw [hn,hg] at h;cases h;exact ⟨ho,hg,hd,hn⟩
  ·cases h
 ·cases h
section
variable {P:Program} {f:FuncId} {n:Nat} {R:Ending→World→Prop} {k:List Item} {e:Env} {w w':World} {ops:Array Oper} {i:Nat} {rest:List Nat} {o:Oper}
theorem Rn.q {v:Value} {d:Nat} (h0:ft n ops i e=some (o,d)) (hv:OpV P n e w o v w') (h:Rn P f n R (.inRegion ops rest::k) ((d,v)::e) w'):Rn P f n R (.inRegion ops (i::rest)::k) e w:=
 let ⟨h1,h2,h3,h4⟩:=ft_ok h0;Rn.v h1 h2 h3 h4 hv h
end
theorem pickL_app (L:List Rs):∀ (a b:List Nat),pickL L (a++b)=pickL L a++pickL L b
 | [],b=>rfl
 | i::r,b=>by
  simp only [List.cons_append,pickL]
  cases L[i]? with
  | none=>exact pickL_app L r b
  | some x=>simp only [List.cons_append,pickL_app L r b]
theorem Hp.cut {Z0 S:Nat→Prop} {w0 w:World} {L:List Rs} (hm:Hp Z0 S w0 w L) (a b:List Nat) (h:(a++b).all (λi=>Nat.blt i L.length)=true) (hnd:(a++b).Nodup):Hp Z0 S w0 w (pickL L a++pickL L b):=by
 rw [← pickL_app];exact hm.pick _ h hnd
theorem iteFB {α:Type} {b:Bool} {x y:Option α} {r:α} (hM:(if b=true then x else y)=some r) (h:b=false):y=some r:=by subst h;exact hM
theorem Hp.nf {Z0 S:Nat→Prop} {w0 w:World} {L:List Rs} (hm:Hp Z0 S w0 w L) (L':List Rs) (h:L=L'):Hp Z0 S w0 w L':=h▸hm
theorem Hp.reBox {Z0 S:Nat→Prop} {w0 w:World} {L:List Rs} (hm:Hp Z0 S w0 w L) {b:Nat} {t:TypeId} {cs cs':List Value} (i:Nat) (hi:L[i]?=some (boxR b t cs)) (h:cs=cs'):Hp Z0 S w0 w (L.set i (boxR b t cs')):=by
 subst h;have hil:=lt_of_get hi
 have:L.set i (boxR b t cs)=L:=by
  have hx:L[i]=boxR b t cs:=by rw [List.getElem?_eq_getElem hil] at hi;exact Option.some.inj hi
  rw [← hx];exact List.set_getElem_self hil
 rw [this];exact hm
abbrev Hp.Z {Z0 S:Nat→Prop} {w0 w:World} {L:List Rs} (_:Hp Z0 S w0 w L):Nat→Prop:=Zo Z0 S w0 L
def okTakes (ops:Array Oper):Array Bool→List Nat→Bool
 | _,[]=>true
 | l,i::r=>okTake ops l i&&okTakes ops (l.setIfInBounds i true) r
def taken:Array Bool→List Nat→Array Bool
 | l,[]=>l
 | l,i::r=>taken (l.setIfInBounds i true) r
def dr (D:List (Nat×List Nat)) (n:Nat) (ops:Array Oper):List Nat→Env→Option Env
 | [],e=>some e
 | i::r,e=>match ops[i]? with
  | some o=>match o.dst with
   | some d=>bif Nat.blt d n then (bif gok e ops o.guard then (match pop D e o.op with
    | some v=>dr D n ops r ((d,v)::e)
    | none=>none)
    else bif gno e ops o.guard then dr D n ops r ((d,undef)::e) else none) else none
   | none=>none
  | none=>none
theorem dr_ok {P:Program} {D:List (Nat×List Nat)} (hD:TabOk P D) {n:Nat} {K:Act→World→Prop} {S:World→Prop} {w:World} {ops:Array Oper}:∀ (is:List Nat) {fuel:Nat} {listed:Array Bool} {e e':Env},okTakes ops listed is=true→Nat.ble is.length fuel=true→dr D n ops is e=some e' →
 RG P n K ops S (fuel-is.length) (taken listed is) e' w→RG P n K ops S fuel listed e w:=by
 intro is
 induction is with
 | nil=>intro fuel listed e e' _ _ h hr;simp only [dr] at h;cases h;exact hr
 | cons i r ih=>
  intro fuel listed e e' hk hf h hr;simp only [okTakes,Bool.and_eq_true] at hk;have hf':r.length+1≤fuel:=Nat.le_of_ble_eq_true hf;obtain ⟨q,rfl⟩:∃ q,fuel=q+1:=⟨fuel-1,by omega⟩
  have hq:Nat.ble r.length q=true:=by rw [Nat.ble_eq];omega
  have hfu:q+1-(i::r).length=q-r.length:=by simp
  rw [hfu] at hr;simp only [dr] at h
  split at h
  ·rename_i o ho
   split at h
   ·rename_i d hd
    cases hn:Nat.blt d n with
    | false=>rw [hn] at h;cases h
    | true=>
     rw [hn] at h
     cases hg:gok e ops o.guard with
     | true=>
      rw [hg] at h;simp only [cond_true] at h
      split at h
      ·rename_i v hv;exact RH.take i hk.1 ho hg hd hn (λ_ _=>pop_ok hD hv) (ih hk.2 hq h hr)
      ·cases h
     | false=>
      rw [hg] at h;simp only [cond_true,cond_false] at h
      cases hg':gno e ops o.guard with
      | true=>rw [hg'] at h;exact RH.no i hk.1 ho hg' hd hn (ih hk.2 hq h hr)
      | false=>rw [hg'] at h;cases h
   ·cases h
  ·cases h
theorem eqF_nil {P:Program} {d:Nat} {xs ys:Array Value} {w:World}:(Op.eqFields d xs ys []).run P w=.ok (decide True) w:=by simp [Op.eqFields]
theorem eqF_cons {P : Program} {d : Nat} {xs ys : Array Value} {w : World} {f : Field} {fs : List Field} {a b : Value} {p q : Prop} [Decidable p] [Decidable q] (hn : (f.name == "_") = false) (ht : ∀ w, (isAgg f.type).run P w = .ok false w) (ha : xs[f.offset]? = some a) (hb : ys[f.offset]? = some b)
 (he:(Op.equalIn d f.type a b).run P w=.ok (decide p) w) (hr:(Op.eqFields d xs ys fs).run P w=.ok (decide q) w):(Op.eqFields d xs ys (f::fs)).run P w=.ok (decide (p∧q)) w:=by
 have hn' : f.name ≠ "_" := by intro h; rw [h] at hn; cases hn
 have pa:(part f.type xs f.offset).run P w=.ok a w:=by simp [part,ht,ha]
 have pb:(part f.type ys f.offset).run P w=.ok b w:=by simp [part,ht,hb]
 simp only [Op.eqFields,hn',ne_eq,not_false_eq_true,if_true,Sem.run_bind,pa,pb,he,Result.andThen_ok]
 by_cases hp:p
 ·simp [hp,hr]
 ·simp [hp]
theorem eqF_top {P:Program} {t:TypeId} {xs ys:Array Value} {w:World} {fs:Array Field} {p q:Prop} [Decidable p] [Decidable q] (hf:P.underlying t=some (.struct (P.fieldsOf t))) (hu:P.underlying t=some (.struct fs)) (hs:P.stoodInHeld t=false) (h:(Op.eqFields 9999 xs ys fs.toList).run P w=.ok (decide q) w) (hpq:q↔p):(Op.equalIn 10000 t (.agg xs) (.agg ys)).run P w=.ok (decide p) w:=by
 rw [run_equalIn_struct w 9999 t _ _ hf hs];rw [hf] at hu;have hfs:=TypeDesc.struct.inj (Option.some.inj hu);rw [hfs,h];simp only [hpq]
theorem eqS {P:Program} {t:TypeId} (w:World) (a b:List UInt8) (h:P.underlying t=some .string):(Op.equalIn 9999 t (Str a) (Str b)).run P w=.ok (decide (a=b)) w:=by
 have h:=run_equalIn_string (P:=P) w 9998 t ⟨a.toArray⟩ ⟨b.toArray⟩ h;rw [h];congr 1;simp only [ByteArray.toList_mk];by_cases hab:a=b<;>simp [hab]
end Go.Wk
namespace Go.Wk
open Go Go.RowKit
section
variable {P:Program} {α:Type} {rep:Rep α} {Z0 S:Nat→Prop} {w0 w:World} {L:List Rs}
variable {f:FuncId} {n:Nat} {R:Ending→World→Prop} {k:List Item} {e:Env}
variable {ops:Array Oper} {i:Nat} {rest:List Nat} {ty:TypeId} {pos:String} {af:Array Edge} {g:Option (Nat×Bool)}
end
end Go.Wk
namespace Go.Wk
open Go Go.RowKit
section
variable {P:Program} {n:Nat} {K:Act→World→Prop} {e:Env} {w:World} {ops:Array Oper} {S:World→Prop} {fuel:Nat} {listed:Array Bool} {d:Nat} {ty:TypeId} {pos:String} {af:Array Edge} {g:Option (Nat×Bool)}
theorem RB.alloc {t:TypeId} {z:Value} {cs:List Value} (i:Nat) (ho:ops[i]?=some ⟨some d,.alloc t,ty,pos,af,g⟩) (hg:gok e ops g=true) (hn:Nat.blt d n=true) (hz:∀ w,(zeroValue t).run P w=.ok z w) (hc:z.cells=cs.toArray)
 (h:∀ b w',b=w.heap.size→Blk w' b t cs→Ext w w'→S w'∧RG P n K ops S fuel (listed.setIfInBounds i true) ((d,.pointer (some ⟨b,0,none⟩))::e) w'):RB P n K ops S fuel listed i e w:=by
 obtain ⟨h6,h7⟩:=h w.heap.size (w.alloc (.cells cs.toArray t)) rfl (Blk.new w t cs) (Ext.alloc w _);exact RB.one i ho hg rfl hn (V.alloc hz hc) h6 h7
theorem RB.box {t:TypeId} {x:Operand} {v:Value} {cs:List Value} (i:Nat) (ho:ops[i]?=some ⟨some d,.box t x,ty,pos,af,g⟩) (hg:gok e ops g=true) (hn:Nat.blt d n=true) (hx:ev e x=some v) (hc:v.cells=cs.toArray)
 (h:∀ b w',b=w.heap.size→Blk w' b t cs→Ext w w'→S w'∧RG P n K ops S fuel (listed.setIfInBounds i true) ((d,.pointer (some ⟨b,0,none⟩))::e) w'):RB P n K ops S fuel listed i e w:=by
 obtain ⟨h6,h7⟩:=h w.heap.size (w.alloc (.cells cs.toArray t)) rfl (Blk.new w t cs) (Ext.alloc w _);exact RB.one i ho hg rfl hn (V.box hx hc) h6 h7
theorem RB.bslS {t el:TypeId} {s by_:Nat} {ps:List (Nat×Operand)} {m:Nat} {us cs:List Value} (i:Nat) (ho:ops[i]?=some ⟨some d,.buildSlice t m ps.toArray,ty,pos,af,g⟩) (hg:gok e ops g=true) (hn:Nat.blt d n=true)
 (ht:P.underlying t=some (.slice el)) (hel:ElOk P el s by_) (hps:ps.map (·.1)=List.range m) (hx:evs e (ps.map (·.2))=some us) (hl:us.length=m) (hcs:us.flatMap (λu=>u.cells.toList)=cs) (hu:∀ u∈us,u.cells.size=s) (hbig:m*s≤16777216)
 (h:∀ b w',b=w.heap.size→Blk w' b el cs→Ext w w'→S w'∧RG P n K ops S fuel (listed.setIfInBounds i true) ((d,.slice (some ⟨b,0,none⟩) m m)::e) w'):RB P n K ops S fuel listed i e w:=by
 obtain ⟨h6,h7⟩:=h w.heap.size (w.alloc (.cells cs.toArray el)) rfl (Blk.new w el cs) (Ext.alloc w _);refine RB.one i ho hg rfl hn (V.bsl (by simpa using hx) (λw=>?_)) h6 h7;rw [List.toList_toArray,hps,← hcs];exact run_buildSlice ht hel hl hu hbig w
end
end Go.Wk
namespace Go.Wk
open Go Go.RowKit
section
variable {Z0 S:Nat→Prop} {w0 w:World} {L K D M:List Rs}
def CalmL:List Rs→Prop
 | []=>True
 | r::l=>(∀ x,¬r.F x)∧CalmL l
theorem CalmL.mem:∀ {L:List Rs},CalmL L→∀ r∈L,∀ x,¬r.F x
 | _::_,⟨h,hr⟩,r,hm=>by
  rcases List.mem_cons.1 hm with rfl|hm
  ·exact h
  ·exact hr.mem r hm
theorem get3 {i:Nat} {a:Rs} (h:((K++D)++M)[i]?=some a):(i<K.length∧K[i]?=some a)∨a∈D∨(K.length+D.length≤i∧M[i-K.length-D.length]?=some a):=by
 rcases get_app h with h|⟨h1,h2⟩
 ·rcases get_app h with h | ⟨h1,h2⟩
  ·exact .inl ⟨lt_of_get h,h⟩
  ·exact .inr (.inl (List.mem_of_getElem? h2))
 ·refine .inr (.inr ⟨by simpa using h1,?_⟩)
  rw [List.length_append] at h2;rw [Nat.sub_sub];exact h2
theorem Hp.insD (hm:Hp Z0 S w0 w (K++M)) (hD:∀ r∈D,(∀ x,¬r.F x)∧r.H (Zo Z0 S w0 (K++M)) w):Hp Z0 S w0 w ((K++D)++M):=by
 have hz:∀ b,Zo Z0 S w0 (K++M) b→Zo Z0 S w0 ((K++D)++M) b:=λb ⟨h1,h2⟩=>⟨h1,λj r hj hr=>by
  rcases get3 hj with ⟨_,h⟩|h|⟨_,h⟩
  ·exact h2 j r (get_left h) hr
  ·exact (hD r h).1 b hr
  ·exact h2 _ r (get_right h) hr⟩
 have kp:∀ r:Rs,r.H (Zo Z0 S w0 (K++M)) w→r.H (Zo Z0 S w0 ((K++D)++M)) w:=λr h=>r.keep h (λ_ _ _=>rfl) (λ_ _ _=>rfl) λb hb _=>hz b hb
 refine ⟨hm.fr,λi r hi=>?_,λi j a b hij hi hj x hx hb=>?_,λi r hi x hx=>?_⟩
 ·rcases get3 hi with ⟨_,h⟩ | h | ⟨_,h⟩
  ·exact kp r (hm.hs _ r (get_left h))
  ·exact kp r (hD r h).2
  ·exact kp r (hm.hs _ r (get_right h))
 ·rcases get3 hi with ⟨hi1,hi⟩ | hi | ⟨hi1,hi⟩
  ·rcases get3 hj with ⟨hj1,hj⟩ | hj | ⟨hj1,hj⟩
   ·exact hm.ap _ _ a b hij (get_left hi) (get_left hj) x hx hb
   ·exact (hD b hj).1 x hb
   ·exact hm.ap _ _ a b (by omega) (get_left hi) (get_right hj) x hx hb
  ·exact (hD a hi).1 x hx
  ·rcases get3 hj with ⟨hj1,hj⟩ | hj | ⟨hj1,hj⟩
   ·exact hm.ap _ _ a b (by omega) (get_right hi) (get_left hj) x hx hb
   ·exact (hD b hj).1 x hb
   ·exact hm.ap _ _ a b (by omega) (get_right hi) (get_right hj) x hx hb
 ·rcases get3 hi with ⟨_,h⟩ | h | ⟨_,h⟩
  ·exact hm.nw _ r (get_left h) x hx
  ·exact ((hD r h).1 x hx).elim
  ·exact hm.nw _ r (get_right h) x hx
theorem Hp.cutF (hm:Hp Z0 S w0 w L) (k j d:List Nat) (h:(k++(j++d)).all (λi=>Nat.blt i L.length)=true) (hnd:(k++(j++d)).Nodup) (hc:CalmL (pickL L d)):Hp Z0 S w0 w ((pickL L k++pickL L d)++(pickL L j++pickL L d)):=by
 have h1:=hm.cut k (j++d) h hnd;rw [pickL_app] at h1
 refine h1.insD λr hr=>⟨hc.mem r hr,?_⟩
 obtain ⟨q,hq,rfl⟩:=List.getElem_of_mem hr;exact h1.hs _ _ (get_right (get_right (List.getElem?_eq_getElem hq)))
end
end Go.Wk
namespace Go.Wk
open Go Go.RowKit
section
variable {β:Type} {a b:Option β} {r:β} {A B C:Prop}
theorem askD {p:Prop} [Decidable p] (hM:(if p then a else b)=some r) (X:(p→A)→(¬p→B)→C) (ht:p→a=some r→A) (hf:¬p→b=some r→B):C:=X (λh=>ht h (iteT h hM)) (λh=>hf h (iteF h hM))
theorem askS {t:Bool} (hM:(if t=true then a else b)=some r) (X:(t=true→A)→(t=false→B)→C) (ht:t=true→a=some r→A) (hf:t=false→b=some r→B):C:=X (λh=>ht h (iteT h hM)) (λh=>hf h (iteFB hM h))
def AllIn:Env→Env→Prop
 | [],_=>True
 | (t,v)::e,e'=>lk e' t=some v∧AllIn e e'
theorem sb:∀ {e e':Env},AllIn e e'→Sub e e'
 | [],_,_=>Sub.nil _
 | (_,_)::_,_,⟨h,hr⟩=>Sub.cons h (sb hr)
end
abbrev pt (b o:Nat):Value:=.pointer (some ⟨b,o,none⟩)
abbrev iv (z:Int):Value:=.int .i64 z
abbrev u8v (x:UInt8):Value:=.int .u8 ((x.toNat:Nat):Int)
abbrev u64v (x:UInt64):Value:=.int .u64 ((x.toNat:Nat):Int)
end Go.Wk
namespace Go.Wk
open Go Go.RowKit
section
variable {Z0 S:Nat→Prop} {w0 w:World} {L:List Rs} {α:Type} {rep:Rep α}
theorem Own.take {B:Nat} {D:Nat→Prop} {et:TypeId} {A:Option Addr} {c:Nat} {xs:List α} (h:Own B D w et A c rep xs) (k:Nat):Own B D w et A c rep (xs.take k):=by
 obtain ⟨h1,h2,h3⟩:=h;refine ⟨Nat.le_trans (by simp;omega) h1,h2,?_⟩
 rcases h3 with ⟨hA,hc⟩|⟨g,cs,vss,hA,hB,hk,hcl,hlen,hrel,hfl⟩
 ·exact .inl ⟨hA,hc⟩
 ·refine .inr ⟨g,cs,vss.take k,hA,hB,hk,hcl,by simp [hlen],λq vs x hv hx=>?_,?_⟩
  ·rw [List.getElem?_take] at hv hx
   split at hv
   ·rename_i hq;rw [if_pos hq] at hx;exact hrel q vs x hv hx
   ·cases hv
  ·have hl:=lens_of hlen hrel
   have e:(vss.take k).flatten=vss.flatten.take ((vss.take k).length*rep.sz):=by
    have hf:=length_flat rep.sz (vss.take k) (λvs hvs=>hl vs (List.mem_of_mem_take hvs))
    have hs:vss.flatten=(vss.take k).flatten++(vss.drop k).flatten:=by rw [← List.flatten_append,List.take_append_drop]
    rw [hs,← hf,List.take_left]
   have hkl:(vss.take k).length=(xs.take k).length:=by simp [hlen]
   rw [e,← hfl,List.take_take,hkl]
   congr 1
   have:(xs.take k).length*rep.sz≤xs.length*rep.sz:=Nat.mul_le_mul_right _ (by simp;omega)
   omega
variable {P:Program} {f:FuncId} {n:Nat} {R:Ending→World→Prop} {k:List Item} {e:Env} {ops:Array Oper} {i:Nat} {rest:List Nat} {d:Nat} {ty:TypeId} {pos:String} {af:Array Edge} {g:Option (Nat×Bool)}
end
theorem objR_flat {F:Nat→Prop} {P:List Rs→Prop} (h:∀ L,P L→∀ (i:Nat) r,L[i]?=some r→r.Flat):(objR F P).Flat:=
 λZ Z' w ⟨L,h1,h2,h3,h4⟩=>⟨L,h1,h2,λi r hi=>h L h1 i r hi Z Z' w (h3 i r hi),h4⟩
section
variable {α:Type} {rep:Rep α} {Z0 S:Nat→Prop} {w0 w:World} {L:List Rs}
end
section
variable {P:Program} {f:FuncId} {n:Nat} {R:Ending→World→Prop} {k:List Item} {e:Env} {w w0:World} {ops:Array Oper} {i d:Nat} {rest:List Nat} {ty:TypeId} {pos:String} {af:Array Edge} {g:Option (Nat×Bool)} {Z0 S:Nat→Prop} {L:List Rs} {α:Type} {rep:Rep α}
end
end Go.Wk
namespace Go.Wk
open Go Go.RowKit
theorem blkRd {w:World} {b:Nat} {t:TypeId} {cs:List Value} {Z:Nat→Prop} (h:(boxR b t cs).H Z w) (o m:Nat):Rd w b o ((cs.drop o).take m):=by
 have:=(Blk.rd h).sub o m;rwa [Nat.zero_add] at this
end Go.Wk
namespace Go.Wk
open Go Go.RowKit
section
variable {P:Program} {f:FuncId} {n:Nat} {R:Ending→World→Prop} {k:List Item} {e:Env} {w:World} {ops:Array Oper}
variable {K:Act→World→Prop}
theorem wpAnyH_str {md:Region.Mode} {Q:Exit→Act→World→Prop} {S1 S:World→Prop} (hs:∀ w',S1 w'→S w'):∀ (fuel:Nat) (listed:Array Bool) (a:Act) (w:World),wpAnyH P md ops Q S1 fuel listed a w→wpAnyH P md ops Q S fuel listed a w
 | 0,_,_,_,h=>h
 | fuel+1,_,_,_,h=>⟨h.1,λi hi=>wpOp_mono (λa' w' h'=>⟨hs _ h'.1,wpAnyH_str hs fuel _ a' w' h'.2⟩) (h.2 i hi)⟩
theorem RG.str {S1 S:World→Prop} {fuel:Nat} {listed:Array Bool} (hs:∀ w',S1 w'→S w') (h1:S1 w) (h:RG P n K ops S1 fuel listed e w):RG P n K ops S fuel listed e w:=
 λa ha hf _=>wpAnyH_str hs fuel listed a w (h a ha hf h1)
end
end Go.Wk
namespace Go.Wk
open Go Go.RowKit
section
variable {P:Program} {n:Nat} {e:Env} {w:World} {dst:Option Nat} {ty:TypeId} {pos:String} {af:Array Edge} {g:Option (Nat×Bool)}
end
end Go.Wk
namespace Go.Wk
open Go Go.RowKit
section
variable {P:Program} {n:Nat} {K:Act→World→Prop} {ops:Array Oper} {S':World→Prop} {fuel:Nat} {listed:Array Bool} {e:Env} {w w0:World} {d:Nat} {ty:TypeId} {pos:String} {af:Array Edge} {g:Option (Nat×Bool)} {Z0 S:Nat→Prop} {L:List Rs} {α:Type} {rep:Rep α}
theorem RB.mkSlH {by_:Nat} {t el:TypeId} {x y:Operand} {m:Int} {zm:α} {xs:List α} {zs:List Value} (i:Nat) (hm:Hp Z0 S w0 w L) (hxs:mkL m zm=some xs) (ho:ops[i]?=some ⟨some d,.makeSlice t x y,ty,pos,af,g⟩) (hg:gok e ops g=true) (hn:Nat.blt d n=true) (ht:P.underlying t=some (.slice el)) (hel:ElOk P el rep.sz by_) (hby:Nat.ble by_ 131072=true)
 (hzc:((P.info? el).bind (·.zero)).map (·.cells)=some zs.toArray) (hx:ev e x=some (.int .i64 m)) (hy:ev e y=some (.int .i64 m)) (hrel:∀ (Z:Nat→Prop) (w:World),rep.rel Z w zs zm)
 (h:∀ b w',Hp Z0 S w0 w' (L++[ownR el (some ⟨b,0,none⟩) xs.length rep xs])→Ext w w'→S' w'∧RG P n K ops S' fuel (listed.setIfInBounds i true) ((d,.slice (some ⟨b,0,none⟩) xs.length xs.length)::e) w'):RB P n K ops S' fuel listed i e w:=by
 obtain ⟨b,w',hr,hE,hm'⟩:=mk_run hm hxs ht hel hby hzc hrel;obtain ⟨h6,h7⟩:=h b w' hm' hE;exact RB.one i ho hg rfl hn (λa hf=>by simp [execOp,ev_eval hf hx,ev_eval hf hy,hr]) h6 h7
end
end Go.Wk
namespace Go.Wk
open Go Go.RowKit
section
variable {P:Program} {f:FuncId} {n:Nat} {R:Ending→World→Prop} {k:List Item} {e:Env} {w w0:World} {ops:Array Oper} {i d:Nat} {rest:List Nat} {ty:TypeId} {pos:String} {af:Array Edge} {g:Option (Nat×Bool)} {Z0 S:Nat→Prop} {L:List Rs}
end
theorem lkB {e:Env} {t:Nat} {a b:Value} (h:lk e t=some a) (hab:a=b:=by first | exact andT (by assumption) | exact andF (by assumption) | exact orT (by assumption) | exact orF (by assumption) | exact nandF (by assumption) | exact nandT (by assumption) | exact norT (by assumption) | exact norF (by assumption) | (simp [*];done) | grind):lk e t=some b:=lkv _ h hab
theorem nbl {a b:Nat} (h:Nat.ble a b=true):a≤b:=Nat.le_of_ble_eq_true h
end Go.Wk
set_option linter.unusedVariables false
set_option linter.unusedSimpArgs false
namespace Go.Wk
open Go Go.RowKit
section
variable {P:Program} {f:FuncId} {n:Nat} {R:Ending→World→Prop} {k:List Item} {e:Env} {w w0 w1:World} {ops:Array Oper} {i d:Nat} {rest:List Nat} {ty:TypeId} {pos:String} {af:Array Edge} {g:Option (Nat×Bool)} {Z0 S:Nat→Prop} {L:List Rs}
theorem cK {q : FuncId} {fn : Func} {c : Code} (h : P.funcs[q]? = some fn) (hb : fn.body = some c := by exact rfl) (hn : (fn.name == "runtime.NumGoroutine") = false := by kernel_rfl) : CallOk P q := ⟨_, _, h, hb, hn⟩
theorem sA {e e':Env} (h:Sub e e':=by repeat (first | exact Sub.nil _ | refine Sub.cons (by first | exact rfl | exact lkB rfl) ?_)):Sub e e':=h
theorem nfN {l:List Rs} (h:l=[]):l=[]:=h
theorem nfC {l t t':List Rs} {a:Rs} (h:l=a::t) (ht:t=t'):l=a::t':=ht▸h
theorem Hp.pk (hm:Hp Z0 S w0 w L) (is:List Nat) (h:is.all (λi=>Nat.blt i L.length)=true:=by exact rfl) (hnd:is.Nodup:=by decide):Hp Z0 S w0 w (pickL L is):=hm.pick is h hnd
theorem Hp.cu {K M:List Rs} (hm:Hp Z0 S w0 w L) (a b:List Nat) (h1:pickL L a=K:=by repeat (first | exact nfN rfl | apply nfC rfl)) (h2:pickL L b=M:=by repeat (first | exact nfN rfl | apply nfC rfl))
 (h:(a++b).all (λi=>Nat.blt i L.length)=true:=by exact rfl) (hnd:(a++b).Nodup:=by decide):Hp Z0 S w0 w (K++M):=h1▸h2▸hm.cut a b h hnd
theorem Hp.nq {L':List Rs} (hm:Hp Z0 S w0 w L) (h:L=L':=by repeat (first | exact nfN rfl | apply nfC rfl)):Hp Z0 S w0 w L':=h▸hm
theorem Rn.R1 {fn:Func} {r1:ResultVar} {v1:Value} (hf:P.funcs[f]?=some fn) (h:R (.returned (v1)) w) (hr:fn.results=#[r1]:=by exact rfl) (h1:RvIs P e w r1 v1:=by exact rvT rfl):Rn P f n R (.code .ret::k) e w:=Rn.retG1 hf hr h1 h
theorem Rn.R2 {fn:Func} {r1 r2:ResultVar} {v1 v2:Value} (hf:P.funcs[f]?=some fn) (h:R (.returned (.tuple #[v1,v2])) w) (hr:fn.results=#[r1,r2]:=by exact rfl) (h1:RvIs P e w r1 v1:=by exact rvT rfl) (h2:RvIs P e w r2 v2:=by exact rvT rfl):Rn P f n R (.code .ret::k) e w:=Rn.retG2 hf hr h1 h2 h
theorem Rn.en {fn:Func} {c:Code} {args:List Value} (hf:P.funcs[f]?=some fn) (h:Rn P f n R [.code c] (argEnv 0 args) w) (hb:fn.body=some c:=by exact rfl) (hn:fn.ntmps=n:=by exact rfl) (hl:args.length≤n:=by exact nbl rfl):Calls P f args.toArray w R:=Rn.enter hf hb hn hl h
theorem Rn.cq {q:FuncId} {xs:List Operand} {ts:Array TypeId} {vs:List Value} {R':Ending→World→Prop} (ck:CallOk P q) (hc:Calls P q vs.toArray w R')
 (h:∀ x w',R' x w'→∃ v,x=.returned v∧Rn P f n R (.inRegion ops rest::k) ((d,v)::e) w')
 (ho:ops[i]?=some ⟨some d,.call { callee:=.value (.func q),args:=xs.toArray,argTypes:=ts },ty,pos,af,g⟩:=by exact rfl) (hg:gok e ops g=true:=by exact rfl) (hn:Nat.blt d n=true:=by exact rfl) (hx:evs e xs=some vs:=by exact rfl):Rn P f n R (.inRegion ops (i::rest)::k) e w:=Rn.cl ck ho hg hn hx hc h
theorem Rn.c0 {q:FuncId} {xs:List Operand} {ts:Array TypeId} {vs:List Value} {v:Value} {Z1:Nat→Prop} (ck:CallOk P q) (hc:Calls P q vs.toArray w λx w'=>x=.returned v∧Hp Z1 No w w' []) (hm:Hp Z0 S w0 w L)
 (h:∀ w',Hp Z1 No w w' []→Hp Z0 S w0 w' L→Rn P f n R (.inRegion ops rest::k) ((d,v)::e) w')
 (ho:ops[i]?=some ⟨some d,.call { callee:=.value (.func q),args:=xs.toArray,argTypes:=ts },ty,pos,af,g⟩:=by exact rfl) (hg:gok e ops g=true:=by exact rfl) (hn:Nat.blt d n=true:=by exact rfl) (hx:evs e xs=some vs:=by exact rfl):Rn P f n R (.inRegion ops (i::rest)::k) e w:=
 Rn.cl ck ho hg hn hx hc λ_ w' ⟨e1,hq⟩=>⟨v,e1,h w' hq (hm.call0 hq)⟩
theorem Rn.c2 {A B:Type} {q:FuncId} {xs:List Operand} {ts:Array TypeId} {vs:List Value} {v:A→B→Value} {Q:A→B→World→Prop} (ck:CallOk P q) (hc:Calls P q vs.toArray w λx w'=>∃ a b,x=.returned (v a b)∧Q a b w')
 (h:∀ a b w',Q a b w'→Rn P f n R (.inRegion ops rest::k) ((d,v a b)::e) w')
 (ho:ops[i]?=some ⟨some d,.call { callee:=.value (.func q),args:=xs.toArray,argTypes:=ts },ty,pos,af,g⟩:=by exact rfl) (hg:gok e ops g=true:=by exact rfl) (hn:Nat.blt d n=true:=by exact rfl) (hx:evs e xs=some vs:=by exact rfl):Rn P f n R (.inRegion ops (i::rest)::k) e w:=
 Rn.cl ck ho hg hn hx hc λ_ w' ⟨a,b,e1,hq⟩=>⟨v a b,e1,h a b w' hq⟩
theorem Rn.jG {G R' α:Type} {it:Item} {r:R'} {F:α} {B:α→Option R'} (hm:Hp Z0 S w0 w1 L) (hM:jn F B=some r) (E:G→Env) (M:G→List Rs) (K:α→G→Option R')
 (rest:∀ g w',Hp Z0 S w0 w' (M g)→K F g=some r→Rn P f n R k (E g) w')
 (h:∀ j,B j=some r→(∀ g w' e',Sub (E g) e'→Hp Z0 S w0 w' (M g)→K j g=some r→Rn P f n R k e' w')→Rn P f n R (it::k) e w):Rn P f n R (it::k) e w:=
 h F hM λg w' _ hs hI hK=>(rest g w' hI hK).weaken hs
theorem Rn.jR {G R' α:Type} {ix:List Nat} {r:R'} {F:α} {B:α→Option R'} (hm:Hp Z0 S w0 w1 L) (hM:jn F B=some r) (rest':List Nat) (E:G→Env) (M:G→List Rs) (K:α→G→Option R')
 (rest:∀ g w',Hp Z0 S w0 w' (M g)→K F g=some r→Rn P f n R (.inRegion ops rest'::k) (E g) w')
 (h:∀ j,B j=some r→(∀ g w' e',Sub (E g) e'→Hp Z0 S w0 w' (M g)→K j g=some r→Rn P f n R (.inRegion ops rest'::k) e' w')→Rn P f n R (.inRegion ops ix::k) e w):Rn P f n R (.inRegion ops ix::k) e w:=
 h F hM λg w' _ hs hI hK=>(rest g w' hI hK).weaken hs
theorem aD {β:Type} {a b:Option β} {r:β} {p:Prop} [Decidable p] {c:Operand} {x y:Code} (hM:(if p then a else b)=some r) (ht:p→a=some r→Rn P f n R (.code x::k) e w) (hf:¬p→b=some r→Rn P f n R (.code y::k) e w)
 (hc:ev e c=some (.bool (decide p)):=by exact rfl):Rn P f n R (.code (.cond c x y)::k) e w:=askD hM (Rn.condD hc) ht hf
theorem aS {β:Type} {a b:Option β} {r:β} {t:Bool} {c:Operand} {x y:Code} (hM:(if t=true then a else b)=some r) (ht:t=true→a=some r→Rn P f n R (.code x::k) e w) (hf:t=false→b=some r→Rn P f n R (.code y::k) e w)
 (hc:ev e c=some (.bool t):=by exact rfl):Rn P f n R (.code (.cond c x y)::k) e w:=askS hM (Rn.condS hc) ht hf
theorem Hp.kn {r:Rs} (hm:Hp Z0 S w0 w L) (hc:Wk.Calm L) (h:r.H Z0 w) (hF:∀ x,¬r.F x:=by exact λ_ h=>h):Hp Z0 S w0 w (L++[r])∧Wk.Calm (L++[r]):=⟨hm.know r hF (hm.in0 hc h),hc.snoc hF⟩
theorem knA {r:Rs} (h:r.H Z0 w) (hF:∀ x,¬r.F x:=by exact λ_ h=>h):Hp Z0 No w w []∧Hp Z0 No w w ([]++[r])∧Wk.Calm ([]++[r]):=⟨Hp.nil Z0 No w,(Hp.nil Z0 No w).kn Calm.nil h hF⟩
theorem Rn.al {t:TypeId} {z:Value} {cs:List Value} (hm:Hp Z0 S w0 w L) (hz:∀ w,(zeroValue t).run P w=.ok z w) (h:∀ b w',Hp Z0 S w0 w' (L++[boxR b t cs])→Rn P f n R (.inRegion ops rest::k) ((d,.pointer (some ⟨b,0,none⟩))::e) w')
 (ho:ops[i]?=some ⟨some d,.alloc t,ty,pos,af,g⟩:=by exact rfl) (hg:gok e ops g=true:=by exact rfl) (hn:Nat.blt d n=true:=by exact rfl) (hc:z.cells=cs.toArray:=by exact rfl):Rn P f n R (.inRegion ops (i::rest)::k) e w:=
 Rn.alloc ho hg hn hz hc λb w' hb hB hE=>h b w' (hm.addBox hb hE hB)
theorem Rn.a1 {A:Type} {K M:List Rs} {q:FuncId} {xs:List Operand} {ts:Array TypeId} {vs:List Value} {v:A→Value} {M':A→List Rs} (ck:CallOk P q) (hc:Calls P q vs.toArray w λx w'=>∃ a,x=.returned (v a)∧Hp (Zo Z0 S w0 (K++M)) (LS M) w w' (M' a)) (hm:Hp Z0 S w0 w (K++M))
 (h:∀ a w',Hp Z0 S w0 w' (K++M' a)→Rn P f n R (.inRegion ops rest::k) ((d,v a)::e) w')
 (ho:ops[i]?=some ⟨some d,.call { callee:=.value (.func q),args:=xs.toArray,argTypes:=ts },ty,pos,af,g⟩:=by exact rfl) (hg:gok e ops g=true:=by exact rfl) (hn:Nat.blt d n=true:=by exact rfl) (hx:evs e xs=some vs:=by exact rfl):Rn P f n R (.inRegion ops (i::rest)::k) e w:=
 Rn.cl ck ho hg hn hx hc λ_ w' ⟨a,e1,hq⟩=>⟨v a,e1,h a w' (hm.callAZ hq)⟩
end
section
variable {P:Program} {n:Nat} {K:Act→World→Prop} {ops:Array Oper} {S:World→Prop} {fuel:Nat} {listed:Array Bool} {e:Env} {w w1:World} {d:Nat} {ty:TypeId} {pos:String} {af:Array Edge} {g:Option (Nat×Bool)} {o:Oper} {f:FuncId} {k:List Item} {R:Ending→World→Prop}
theorem RH.cq {q:FuncId} {xs:List Operand} {ts:Array TypeId} {vs:List Value} {R':Ending→World→Prop} (ck:CallOk P q) (i:Nat) (hc:Calls P q vs.toArray w R')
 (h:∀ x w',R' x w'→∃ v,x=.returned v∧S w'∧RG P n K ops S fuel (listed.setIfInBounds i true) ((d,v)::e) w') (hr:Region.ready .any ops listed=[i]:=by kernel_rfl)
 (ho:ops[i]?=some ⟨some d,.call { callee:=.value (.func q),args:=xs.toArray,argTypes:=ts },ty,pos,af,g⟩:=by exact rfl) (hg:gok e ops g=true:=by exact rfl) (hn:Nat.blt d n=true:=by exact rfl) (hx:evs e xs=some vs:=by exact rfl):RG P n K ops S (fuel+1) listed e w:=RH.cl ck i hr ho hg hn hx hc h
theorem RH.tk {v:Value} (i:Nat) (ho:ops[i]?=some o) (hv:∀ w,S w→OpV P n e w o v w) (h:RG P n K ops S fuel (listed.setIfInBounds i true) ((d,v)::e) w)
 (hk:okTake ops listed i=true:=by kernel_rfl) (hg:gok e ops o.guard=true:=by exact rfl) (hd:o.dst=some d:=by exact rfl) (hn:Nat.blt d n=true:=by exact rfl):RG P n K ops S (fuel+1) listed e w:=RH.take i hk ho hg hd hn hv h
theorem RH.on {v:Value} {w':World} (i:Nat) (ho:ops[i]?=some o) (hv:OpV P n e w o v w') (hS':S w') (h:RG P n K ops S fuel (listed.setIfInBounds i true) ((d,v)::e) w')
 (hr:Region.ready .any ops listed=[i]:=by kernel_rfl) (hg:gok e ops o.guard=true:=by exact rfl) (hd:o.dst=some d:=by exact rfl) (hn:Nat.blt d n=true:=by exact rfl):RG P n K ops S (fuel+1) listed e w:=RH.one i hr ho hg hd hn hv hS' h
theorem RH.tp {v:Value} (i:Nat) (ho:ops[i]?=some o) (hv:OpV P n e w1 o v w1) (h:RG P n K ops (λw'=>w'=w1) fuel (listed.setIfInBounds i true) ((d,v)::e) w)
 (hk:okTake ops listed i=true:=by kernel_rfl) (hg:gok e ops o.guard=true:=by exact rfl) (hd:o.dst=some d:=by exact rfl) (hn:Nat.blt d n=true:=by exact rfl):RG P n K ops (λw'=>w'=w1) (fuel+1) listed e w:=RH.takeP i hk ho hg hd hn hv h
theorem RH.ho {v:Value} (i:Nat) (ho:ops[i]?=some o) (hv:OpV P n e w o v w) (h:RG P n K ops S fuel (listed.setIfInBounds i true) ((d,v)::e) w)
 (hr:Region.ready .any ops listed=[i]:=by kernel_rfl) (hg:gok e ops o.guard=true:=by exact rfl) (hd:o.dst=some d:=by exact rfl) (hn:Nat.blt d n=true:=by exact rfl):RG P n K ops S (fuel+1) listed e w:=RH.here λhS=>RH.one i hr ho hg hd hn hv hS h
theorem RH.dn (h:Rn P f n R k e w) (hr:Region.ready .any ops listed=[]:=by kernel_rfl):RH P f n R k ops S fuel listed e w:=RH.doneP hr h
theorem RT.vv {n0:Nat} {v:Value} (q:Nat) (ho:ops[q]?=some o) (hv:OpV P n e w1 o v w1) (h:RT P f n R k ops n0 w1 (q+1) ((d,v)::e))
 (hq:Nat.blt q n0=true:=by kernel_rfl) (hg:gok e ops o.guard=true:=by exact rfl) (hd:o.dst=some d:=by exact rfl) (hn:Nat.blt d n=true:=by exact rfl):RT P f n R k ops n0 w1 q e:=RT.v q hq ho hg hd hn hv h
end
end Go.Wk
set_option linter.unusedVariables false
set_option linter.unusedSimpArgs false
namespace Go.Wk
open Go Go.RowKit
def nanB (z:UInt64):Prop:=9218868437227405312<z.toNat%9223372036854775808
def sameF (z x:UInt64):Prop:=z=x∨(nanB z∧nanB x)
def fltO (o:Option Nat):UInt64:=match o with | some r=>UInt64.ofNat r | none=>9221120237041090561
def fadd (a b:UInt64):UInt64:=fltO (Ieee.double.add a.toNat b.toNat)
def fsub (a b:UInt64):UInt64:=fltO (Ieee.double.sub a.toNat b.toNat)
abbrev Cpx (a b:UInt64):Value:=.complex .f64 a.toNat b.toNat
theorem dword_lt (neg:Bool) {r:Nat} (h:r<9223372036854775808):Ieee.double.word neg r<18446744073709551616:=by
 have e:Ieee.double.signWeight=9223372036854775808:=by decide
 unfold Ieee.Format.word;rw [e]
 cases neg<;>simp<;>omega
theorem dwrite_lt:∀ d:Ieee.Datum,Ieee.double.write d<18446744073709551616
 | .number neg mag place=>by
  have e:Ieee.double.infRung=9218868437227405312:=by decide
  unfold Ieee.Format.write Ieee.Format.nearest;dsimp only
  split
  ·exact dword_lt _ (by omega)
  ·refine dword_lt _ (Nat.lt_of_le_of_lt (Nat.min_le_right _ _) ?_)
   rw [e];omega
 | .infinity neg=>dword_lt neg (by decide)
 | .nan neg fraction=>by
  have e:Ieee.double.infRung=9218868437227405312:=by decide
  have e2:Ieee.double.binade=4503599627370496:=by decide
  unfold Ieee.Format.write;refine dword_lt _ ?_;rw [e,e2]
  omega
theorem fmt_lt {o:Option Ieee.Datum} {r:Nat} (h:o.map Ieee.double.write=some r):r<18446744073709551616:=by
 cases o with
 | none=>cases h
 | some d=>cases h;exact dwrite_lt d
theorem nan_cut (a b t:Nat):(Question.nanBits .f64 a b).cut t<18446744073709551616∧9218868437227405312<(Question.nanBits .f64 a b).cut t%9223372036854775808:=by
 have e:(Question.nanBits .f64 a b).cut t=(t%2)*2^63+0x7ff0000000000000+1+(t/2)%(2^52-1):=rfl;rw [e];have h1:=Nat.mod_lt t (show 0<2 by decide);have h2:=Nat.mod_lt (t/2) (show 0<2^52-1 by decide);generalize t%2=x at *;generalize t/2%(2^52-1)=y at *
 constructor<;>omega
theorem ofNat_nat64 {n:Nat} (h:n<18446744073709551616):(UInt64.ofNat n).toNat=n:=by rw [UInt64.toNat_ofNat'];exact Nat.mod_eq_of_lt h
theorem and_sign (z:UInt64):(z &&& ~~~(9223372036854775808:UInt64)).toNat=z.toNat%9223372036854775808:=by
 rw [UInt64.toNat_and,show (~~~(9223372036854775808:UInt64)).toNat=2^63-1 by decide,Nat.and_two_pow_sub_one_eq_mod]
theorem nan_and {z:UInt64} (h:nanB z):((z &&& ~~~(9223372036854775808:UInt64)).toNat:Int)>9218868437227405312:=by
 rw [and_sign];unfold nanB at h;omega
theorem nan_odd:nanB 9221120237041090561:=by unfold nanB;decide
theorem arith_run {P:Program} (w:World) (o:BinOp) (a b:UInt64) (ho:o=.add∨o=.sub) :
 ∃ z w',(Op.floatArith o .f64 a.toNat b.toNat).run P w=.ok (.float .f64 z.toNat) w'∧sameF z (if o=.add then fadd a b else fsub a b)∧Ext w w':=by
 have key:∀ r:Option Nat,(∀ x,r=some x→x<18446744073709551616)→∃ (z:UInt64) (w':World),((match r with | some r=>(pure (.float .f64 r):Sem Value) | none=>do pure (.float .f64 (← choose (.nanBits .f64 a.toNat b.toNat))))).run P w=.ok (.float .f64 z.toNat) w'∧sameF z (fltO r)∧Ext w w':=by
  intro r hr
  cases r with
  | some x=>exact ⟨UInt64.ofNat x,w,by rw [ofNat_nat64 (hr x rfl)];rfl,.inl rfl,Ext.refl w⟩
  | none=>
   obtain ⟨h1,h2⟩:=nan_cut a.toNat b.toNat (w.tape w.drawn (.nanBits .f64 a.toNat b.toNat));refine ⟨UInt64.ofNat ((Question.nanBits .f64 a.toNat b.toNat).cut (w.tape w.drawn (.nanBits .f64 a.toNat b.toNat))),w.drew,?_,.inr ⟨?_,nan_odd⟩,Ext.drew w⟩
   ·rw [ofNat_nat64 h1];rfl
   ·unfold nanB;rw [ofNat_nat64 h1];exact h2
 rcases ho with rfl|rfl
 ·obtain ⟨z,w',h1,h2,h3⟩:=key (Ieee.double.add a.toNat b.toNat) (λx hx=>fmt_lt hx)
  refine ⟨z,w',?_,h2,h3⟩;rw [← h1];rfl
 ·obtain ⟨z,w',h1,h2,h3⟩:=key (Ieee.double.sub a.toNat b.toNat) (λx hx=>fmt_lt hx)
  refine ⟨z,w',?_,by rw [if_neg (by decide)];exact h2,h3⟩;rw [← h1];rfl
section
variable {P:Program} {f:FuncId} {n:Nat} {R:Ending→World→Prop} {k:List Item} {e:Env} {w:World}
variable {ops:Array Oper} {i:Nat} {rest:List Nat} {d:Nat} {dst:Option Nat} {ty:TypeId} {pos:String} {af:Array Edge} {g:Option (Nat×Bool)}
theorem Rn.fop {o:BinOp} {x y:Operand} {a b:UInt64} {t u:TypeId} (ho:ops[i]?=some ⟨some d,.binOp o t x y u,ty,pos,af,g⟩) (hg:gok e ops g=true) (hn:Nat.blt d n=true) (hop:o=.add∨o=.sub)
 (hx:ev e x=some (Flt a)) (hy:ev e y=some (Flt b)) (h:∀ z w',sameF z (if o=.add then fadd a b else fsub a b)→Ext w w'→Rn P f n R (.inRegion ops rest::k) ((d,Flt z)::e) w'):Rn P f n R (.inRegion ops (i::rest)::k) e w:=by
 obtain ⟨z,w',h1,h2,h3⟩:=arith_run (P:=P) w o a b hop;refine Rn.opV ho hg rfl hn (λc hf=>?_) (h z w' h2 h3)
 have e0:∀ (v1 v2:Value),eqGuard o t x y v1 v2=(pure ():Sem Unit):=λv1 v2=>by rcases hop with rfl | rfl<;>rfl
 have e1:binOp o t (Flt a) (Flt b)=Op.floatArith o .f64 a.toNat b.toNat:=by rcases hop with rfl | rfl<;>rfl
 simp only [execOp,ev_eval hf hx,ev_eval hf hy]
 first
  | (simp [e0,e1,h1,Sem.run_bind,Result.andThen];done)
  | (rw [e0];simp [e1,h1,Sem.run_bind,Result.andThen])
theorem Rn.cop {o:BinOp} {x y:Operand} {a b a' b':UInt64} {t u:TypeId} (ho:ops[i]?=some ⟨some d,.binOp o t x y u,ty,pos,af,g⟩) (hg:gok e ops g=true) (hn:Nat.blt d n=true) (hop:o=.add∨o=.sub)
 (hx:ev e x=some (Cpx a b)) (hy:ev e y=some (Cpx a' b')) (h:∀ z1 z2 w',sameF z1 (if o=.add then fadd a a' else fsub a a')→sameF z2 (if o=.add then fadd b b' else fsub b b')→Ext w w'→Rn P f n R (.inRegion ops rest::k) ((d,Cpx z1 z2)::e) w'):Rn P f n R (.inRegion ops (i::rest)::k) e w:=by
 obtain ⟨z1,w1,h1,h2,h3⟩:=arith_run (P:=P) w o a a' hop;obtain ⟨z2,w2,k1,k2,k3⟩:=arith_run (P:=P) w1 o b b' hop;refine Rn.opV ho hg rfl hn (λc hf=>?_) (h z1 z2 w2 h2 k2 (Fr.trans h3 k3))
 have e0:∀ (v1 v2:Value),eqGuard o t x y v1 v2=(pure ():Sem Unit):=λv1 v2=>by rcases hop with rfl | rfl<;>rfl
 have e1:binOp o t (Cpx a b) (Cpx a' b')=(do pure (.complex .f64 (← Op.Complex.arith o .f64 a.toNat a'.toNat) (← Op.Complex.arith o .f64 b.toNat b'.toNat))):=by rcases hop with rfl | rfl<;>rfl
 simp only [execOp,ev_eval hf hx,ev_eval hf hy];simp [e0,e1,Op.Complex.arith,h1,k1,Sem.run_bind,Result.andThen]
theorem cplx_run (ts:Array TypeId) (t:TypeId) (a b:UInt64):Builtin.complex_ ts t #[Flt a,Flt b]=pure (Cpx a b):=rfl
theorem real_run (ts:Array TypeId) (t:TypeId) (a b:UInt64):Builtin.real_ ts t #[Cpx a b]=pure (Flt a):=rfl
theorem imag_run (ts:Array TypeId) (t:TypeId) (a b:UInt64):Builtin.imag_ ts t #[Cpx a b]=pure (Flt b):=rfl
theorem V.cplx {x y:Operand} {a b:UInt64} {ts:Array TypeId} (hx:ev e x=some (Flt a)) (hy:ev e y=some (Flt b)) :
 OpV P n e w ⟨dst,.call { callee:=.builtin .complex,args:=#[x,y],argTypes:=ts },ty,pos,af,g⟩ (Cpx a b) w:=
 λc hf=>by simp [execOp,resolve,invoke,builtin,ev_eval hf hx,ev_eval hf hy,cplx_run]
theorem V.real {x:Operand} {a b:UInt64} {ts:Array TypeId} (hx:ev e x=some (Cpx a b)) :
 OpV P n e w ⟨dst,.call { callee:=.builtin .real,args:=#[x],argTypes:=ts },ty,pos,af,g⟩ (Flt a) w:=
 λc hf=>by simp [execOp,resolve,invoke,builtin,ev_eval hf hx,real_run]
theorem V.imag {x:Operand} {a b:UInt64} {ts:Array TypeId} (hx:ev e x=some (Cpx a b)) :
 OpV P n e w ⟨dst,.call { callee:=.builtin .imag,args:=#[x],argTypes:=ts },ty,pos,af,g⟩ (Flt b) w:=
 λc hf=>by simp [execOp,resolve,invoke,builtin,ev_eval hf hx,imag_run]
theorem V.bitsOf {gg : FuncId} {fn : Func} {xs : List Operand} {ts : Array TypeId} {a : UInt64} (hf : P.funcs[gg]? = some fn) (hname : (fn.name == "runtime.NumGoroutine") = false) (hb : fn.body.isNone = true) (hn : Extern.findNext fn = none) (he : Extern.find fn = some Extern.MathFloatBits.float64bits)
 (hx:evs e xs=some [Flt a]):OpV P n e w ⟨dst,.call { callee:=.value (.func gg),args:=xs.toArray,argTypes:=ts },ty,pos,af,g⟩ (.int .u64 ((a.toNat:Nat):Int)) w:=
 V.externW hf hname hb hn he hx rfl
theorem V.andNot64 {x y:Operand} {a b:UInt64} {t u:TypeId} (hx:ev e x=some (.int .u64 a.toNat)) (hy:ev e y=some (.int .u64 b.toNat)):OpV P n e w ⟨dst,.binOp .andNot t x y u,ty,pos,af,g⟩ (.int .u64 ((a &&& ~~~b).toNat:Nat)) w:=by
 refine V.op2 hx hy ?_;have e0:binOp .andNot t (.int .u64 a.toNat) (.int .u64 b.toNat)=Op.intBits .andNot .u64 a.toNat b.toNat:=rfl;have e1:Op.intBits .andNot .u64 (a.toNat:Int) (b.toNat:Int)=pure (.int .u64 (IntKind.u64.wrap ((BitVec.ofInt 64 (a.toNat:Int) &&& ~~~(BitVec.ofInt 64 (b.toNat:Int))).toNat:Int))):=rfl;rw [e0,e1];congr 2
 have h1:BitVec.ofInt 64 (a.toNat:Int)=a.toBitVec:=by apply BitVec.eq_of_toNat_eq;simp
 have h2:BitVec.ofInt 64 (b.toNat:Int)=b.toBitVec:=by apply BitVec.eq_of_toNat_eq;simp
 rw [h1,h2];have:=(a.toBitVec &&& ~~~b.toBitVec).isLt;simp only [IntKind.wrap,IntKind.signed,IntKind.bits,Bool.false_and,Bool.false_eq_true,if_false]
 have h3:((a.toBitVec &&& ~~~b.toBitVec).toNat:Int)%2^64=((a.toBitVec &&& ~~~b.toBitVec).toNat:Int):=by omega
 rw [h3];simp
end
end Go.Wk
set_option linter.unusedVariables false
set_option linter.unusedSimpArgs false
namespace Go.Wk
open Go Go.RowKit
section
variable {P:Program} {n:Nat} {K:Act→World→Prop} {e:Env} {w:World} {ops:Array Oper} {S:World→Prop} {fuel:Nat} {listed:Array Bool} {o:Oper} {ty:TypeId} {pos:String} {af:Array Edge} {g:Option (Nat×Bool)}
theorem RB.oneU {w':World} (i:Nat) (ho:ops[i]?=some o) (hg:gok e ops o.guard=true) (hd:o.dst=none) (hv:∀ a:Act,Fits e n a.tmps→(execOp a.eval o).run P w=.ok .skip w') (hS':S w')
 (h:RG P n K ops S fuel (listed.setIfInBounds i true) e w'):RB P n K ops S fuel listed i e w:=by
 intro a ha hf hS;unfold wpOp;simp only [ho,wanted_of_gok hf hg,if_true];refine .inl ?_;unfold Oper.wp;rw [hv a hf,Oper.upon_skip,hd];exact ⟨hS',h _ (by rw [defers_put];exact ha) hf hS'⟩
end
section
variable {P:Program} {n:Nat} {K:Act→World→Prop} {e:Env} {w:World} {ops:Array Oper} {S:World→Prop} {fuel:Nat} {listed:Array Bool} {ty:TypeId} {pos:String} {af:Array Edge} {g:Option (Nat×Bool)}
theorem RB.st {t:TypeId} {x y:Operand} {b o s:Nat} {t':TypeId} {cs vs:List Value} {v:Value} (i:Nat) (ho:ops[i]?=some ⟨none,.store t x y,ty,pos,af,g⟩) (hg:gok e ops g=true) (hs:∀ w,(sizeOf t).run P w=.ok s w) (hx:ev e x=some (.pointer (some ⟨b,o,none⟩))) (hy:ev e y=some v) (hv:v.cells=vs.toArray)
 (hl:vs.length=s) (h1:∀ u∈vs,u.oneCell'=true) (hB:Blk w b t' cs) (hfit:o+vs.length≤cs.length)
 (h:∀ w',Blk w' b t' (setL cs o vs)→Fr (λx=>x=b) w w'→S w'∧RG P n K ops S fuel (listed.setIfInBounds i true) e w'):RB P n K ops S fuel listed i e w:=by
 obtain ⟨w',hr',hb,hf⟩:=storeCells_blk P t' b vs cs o 0 w hB h1 (by omega);obtain ⟨h6,h7⟩:=h w' hb hf;refine RB.oneU i ho hg rfl (λa hf=>?_) h6 h7;simp [execOp,ev_eval hf hx,ev_eval hf hy,Instr.storeAt,Instr.sureAddr,storeVar,hs,hv,hl,hr']
end
end Go.Wk
namespace Go.Wk
open Go Go.RowKit
def catOk:List (Nat×Nat)→List Value→Nat→Bool
 | _,[],_=>true
 | [],_::_,_=>false
 | (o,s)::r,u::us,n=>Nat.beq o n&&Nat.beq s u.cells.toList.length&&catOk r us (n+s)
theorem fill_cat:∀ (us:List Value) (offs:List (Nat×Nat)) (k:Nat) (pre post:List Value),catOk (offs.drop k) us pre.length=true→post.length=(us.flatMap λu=>u.cells.toList).length →
 fillL offs (pre++post) ((List.range' k us.length).zip us)=some (pre++us.flatMap λu=>u.cells.toList)
 | [],_,_,pre,post,_,hp=>by
  have:post=[]:=List.eq_nil_of_length_eq_zero (by simpa using hp);simp [fillL,this]
 | u::us,offs,k,pre,post,hc,hp=>by
  cases hd:offs.drop k with
  | nil=>rw [hd] at hc;simp [catOk] at hc
  | cons q r=>
   obtain ⟨o,s⟩:=q;rw [hd] at hc;simp only [catOk,Bool.and_eq_true] at hc;obtain ⟨⟨h1,h2⟩,h3⟩:=hc;have h1:=Nat.eq_of_beq_eq_true h1;have h2:=Nat.eq_of_beq_eq_true h2;subst h1 h2
   have hk:offs[k]?=some (pre.length,u.cells.toList.length):=by
    have:=congrArg (·[0]?) hd;simpa using this
   have hr:offs.drop (k+1)=r:=by
    rw [← List.drop_drop,hd];rfl
   simp only [List.flatMap_cons,List.length_append] at hp;simp only [List.length_cons,List.range'_succ,List.zip_cons_cons,fillL,hk];rw [Nat.beq_refl,Bool.true_and,show Nat.ble (pre.length+u.cells.toList.length) (pre++post).length=true from Nat.ble_eq_true_of_le (by rw [List.length_append];omega)]
   have e2:setL (pre++post) pre.length u.cells.toList=(pre++u.cells.toList)++post.drop u.cells.toList.length:=by
    have:=setL_append pre u.cells.toList (post.take u.cells.toList.length) (post.drop u.cells.toList.length) (by rw [List.length_take];omega);rw [List.append_assoc,List.take_append_drop] at this;exact this
   rw [e2,cond_true,fill_cat us offs (k+1) _ _ (by rw [hr,List.length_append];exact h3) (by rw [List.length_drop];omega)];simp
section
variable {P:Program} {n:Nat} {e:Env} {w:World} {dst:Option Nat} {ty:TypeId} {pos:String} {af:Array Edge} {g:Option (Nat×Bool)}
theorem V.bldF {t:TypeId} {ps:Array (Nat×Operand)} {us:List Value} {zs cs:List Value} {offs:List (Nat×Nat)} (hst:StOk P t zs offs) (hx:evs e (ps.toList.map (·.2))=some us) (hr:ps.toList.map (·.1)=List.range' 0 us.length) (hc:catOk offs us 0=true)
 (hz:zs.length=(us.flatMap λu=>u.cells.toList).length) (hcs:(us.flatMap λu=>u.cells.toList)=cs):OpV P n e w ⟨dst,.build t ps,ty,pos,af,g⟩ (.agg cs.toArray) w:=
 V.bldS hst hx (by
  have:=fill_cat us offs 0 [] zs hc hz;rw [hr,← hcs]
  simpa using this)
end
end Go.Wk
namespace Go.Wk
open Go Go.RowKit
theorem setL_all {vs cs:List Value} (h:vs.length=cs.length):setL cs 0 vs=vs:=by
 have:=setL_append [] vs cs [] h.symm;simpa using this
section
variable {P:Program} {f:FuncId} {n:Nat} {R:Ending→World→Prop} {k:List Item} {e:Env} {w:World} {ops:Array Oper} {i:Nat} {rest:List Nat} {ty:TypeId} {pos:String} {af:Array Edge} {g:Option (Nat×Bool)} {K:Act→World→Prop} {S:World→Prop} {fuel:Nat} {listed:Array Bool}
theorem Rn.stF {t:TypeId} {x y:Operand} {b s:Nat} {t':TypeId} {cs vs:List Value} {v:Value} (ho:ops[i]?=some ⟨none,.store t x y,ty,pos,af,g⟩) (hg:gok e ops g=true) (hs:∀ w,(sizeOf t).run P w=.ok s w) (hx:ev e x=some (.pointer (some ⟨b,0,none⟩))) (hy:ev e y=some v) (hv:v.cells=vs.toArray)
 (hl:vs.length=s) (h1:∀ u∈vs,u.oneCell'=true) (hB:Blk w b t' cs) (hfit:vs.length=cs.length)
 (h:∀ w',Blk w' b t' vs→Fr (λx=>x=b) w w'→Rn P f n R (.inRegion ops rest::k) e w'):Rn P f n R (.inRegion ops (i::rest)::k) e w:=
 Rn.st ho hg hs hx hy hv hl h1 hB (by omega) λw' hb hf=>h w' (by rw [setL_all hfit] at hb;exact hb) hf
theorem RH.stF {t:TypeId} {x y:Operand} {b s:Nat} {t':TypeId} {cs vs:List Value} {v:Value} (i:Nat) (hr:Region.ready .any ops listed=[i]) (ho:ops[i]?=some ⟨none,.store t x y,ty,pos,af,g⟩) (hg:gok e ops g=true) (hs:∀ w,(sizeOf t).run P w=.ok s w) (hx:ev e x=some (.pointer (some ⟨b,0,none⟩))) (hy:ev e y=some v) (hv:v.cells=vs.toArray)
 (hl:vs.length=s) (h1:∀ u∈vs,u.oneCell'=true) (hB:Blk w b t' cs) (hfit:vs.length=cs.length)
 (h:∀ w',Blk w' b t' vs→Fr (λx=>x=b) w w'→S w'∧RG P n K ops S fuel (listed.setIfInBounds i true) e w'):RG P n K ops S (fuel+1) listed e w:=
 RH.st i hr ho hg hs hx hy hv hl h1 hB (by omega) λw' hb hf=>h w' (by rw [setL_all hfit] at hb;exact hb) hf
end
end Go.Wk
namespace Go.Wk
open Go Go.RowKit
section
variable {P:Program} {n:Nat} {e:Env} {w:World} {dst:Option Nat} {ty:TypeId} {pos:String} {af:Array Edge} {g:Option (Nat×Bool)}
theorem V.leqS {x y:Operand} {a b:List UInt8} {t u:TypeId} (hx:ev e x=some (Str a)) (hy:ev e y=some (Str b)) :
 OpV P n e w ⟨dst,.binOp .leq t x y u,ty,pos,af,g⟩ (.bool (!(Op.bytesLess b a))) w:=
 λc hf=>by
  have h:(Op.bytesLess a b||a==b) = !(Op.bytesLess b a):=by rw [← bytesLess_geq a b,Bool.not_not]
  simp only [execOp,ev_eval hf hx,ev_eval hf hy,eqGuard_at_string,binOp,Op.stringOp,ByteArray.toList_mk,h,Sem.run_bind,Sem.run_pure,Result.andThen_ok]
end
end Go.Wk
set_option linter.unusedVariables false
set_option linter.unusedSimpArgs false
namespace Go.Wk
open Go Go.RowKit
section
variable {P:Program} {f:FuncId} {n:Nat} {R:Ending→World→Prop} {k:List Item} {e:Env} {w w' w0 w1:World} {ops:Array Oper} {i d:Nat} {rest:List Nat} {ty:TypeId} {pos:String} {af:Array Edge} {g:Option (Nat×Bool)} {Z0 S:Nat→Prop} {L:List Rs}
def nthC:Nat→List Rs→(Rs→List Rs)→List Rs→List Rs
 | _,[],_,d=>d
 | 0,x::_,k,_=>k x
 | m+1,_::l,k,d=>nthC m l k d
def fxL:List Nat→List Rs→List Rs→List Rs
 | i::is,L,m::M=>nthC i L (λx=>x::fxL is L M) (m::fxL is L M)
 | _,_,M=>M
theorem Rn.jF {G R' α:Type} {it:Item} {r:R'} {F:α} {B:α→Option R'} (hm:Hp Z0 S w0 w1 L) (ix:List Nat) (hM:jn F B=some r) (E:G→Env) (M:G→List Rs) (K:α→G→Option R')
 (rest:∀ g w',Hp Z0 S w0 w' (M g)→K F g=some r→Rn P f n R k (E g) w')
 (h:∀ j,B j=some r→(∀ g w' e',Sub (E g) e'→Hp Z0 S w0 w' (M g)→K j g=some r→Rn P f n R k e' w')→Rn P f n R (it::k) e w) (hP:∀ g,fxL ix L (M g)=M g:=by exact λ_=>rfl):Rn P f n R (it::k) e w:=
 have _:=hP
 Rn.jG hm hM E M K rest h
theorem Rn.jQ {G R' α:Type} {ix:List Nat} {r:R'} {F:α} {B:α→Option R'} (hm:Hp Z0 S w0 w1 L) (fx:List Nat) (hM:jn F B=some r) (rest':List Nat) (E:G→Env) (M:G→List Rs) (K:α→G→Option R')
 (rest:∀ g w',Hp Z0 S w0 w' (M g)→K F g=some r→Rn P f n R (.inRegion ops rest'::k) (E g) w')
 (h:∀ j,B j=some r→(∀ g w' e',Sub (E g) e'→Hp Z0 S w0 w' (M g)→K j g=some r→Rn P f n R (.inRegion ops rest'::k) e' w')→Rn P f n R (.inRegion ops ix::k) e w) (hP:∀ g,fxL fx L (M g)=M g:=by exact λ_=>rfl):Rn P f n R (.inRegion ops ix::k) e w:=
 have _:=hP
 Rn.jR hm hM rest' E M K rest h
theorem Rn.lF {G R':Type} {c:Code} {r:R'} (hm:Hp Z0 S w0 w1 L) (ix:List Nat) (E:G→Env) (J:G→List Rs) (M:Nat→G→Option R') (N:Nat) (g:G) (hE:Sub (E g) e) (hI:Hp Z0 S w0 w (J g)) (hM:M N g=some r)
 (body:∀ m g w,Hp Z0 S w0 w (J g)→M (m+1) g=some r→(∀ g' w' e',Sub (E g') e'→Hp Z0 S w0 w' (J g')→M m g'=some r→Rn P f n R (.inLoop c::k) e' w')→Rn P f n R (.code c::.inLoop c::k) (E g) w)
 (hP:∀ g,fxL ix L (J g)=J g:=by exact λ_=>rfl) (h0:∀ g,M 0 g=none:=by exact λ_=>rfl):Rn P f n R (.code (.loop c)::k) e w:=
 have _:=hP;have _:=hm
 Rn.loopF E (λg w'=>Hp Z0 S w0 w' (J g)) M N g hE hI hM h0 body
theorem ncN {l:List Value} (h:l=[]):l=[]:=h
theorem ncC {l t t':List Value} {a:Value} (h:l=a::t) (ht:t=t'):l=a::t':=ht▸h
theorem nfL {l:List Rs} {b:Nat} {t:TypeId} {cs cs':List Value} (h:l=[boxR b t cs]) (hc:cs=cs'):l=[boxR b t cs']:=hc▸h
theorem Hp.nb {L':List Rs} (hm:Hp Z0 S w0 w L) (h:L=L':=by repeat (first | exact nfN rfl | apply nfL rfl | apply nfC rfl | exact ncN rfl | apply ncC rfl)):Hp Z0 S w0 w L':=h▸hm
theorem Hp.sn {L':List Rs} {b:Nat} {t:TypeId} {cs cs0 cs':List Value} (hm:Hp Z0 S w0 w L) (m:Nat) (hf:Fr (λx=>x=b) w w') (h:Blk w' b t cs0) (hi:L[m]?=some (boxR b t cs):=by exact rfl)
 (hc:cs0=cs':=by repeat (first | exact ncN rfl | apply ncC rfl)) (hL:L.set m (boxR b t cs')=L':=by repeat (first | exact nfN rfl | apply nfC rfl)):Hp Z0 S w0 w' L':=by
 subst hc;subst hL;exact hm.st m hi hf h
theorem Rn.bx {t:TypeId} {x:Operand} {v:Value} {cs:List Value} (hm:Hp Z0 S w0 w L) (h:∀ b w',Hp Z0 S w0 w' (L++[boxR b t cs])→Rn P f n R (.inRegion ops rest::k) ((d,.pointer (some ⟨b,0,none⟩))::e) w')
 (ho:ops[i]?=some ⟨some d,.box t x,ty,pos,af,g⟩:=by exact rfl) (hg:gok e ops g=true:=by exact rfl) (hn:Nat.blt d n=true:=by exact rfl) (hx:ev e x=some v:=by exact rfl) (hc:v.cells=cs.toArray:=by exact rfl):Rn P f n R (.inRegion ops (i::rest)::k) e w:=
 Rn.box ho hg hn hx hc λb w' hb hB hE=>h b w' (hm.addBox hb hE hB)
theorem Rn.sn {t:TypeId} {x y:Operand} {b o s:Nat} {t':TypeId} {cs vs cs':List Value} {v:Value} {L':List Rs} (hm:Hp Z0 S w0 w L) (m:Nat) (hs:∀ w,(sizeOf t).run P w=.ok s w)
 (h:∀ w',Hp Z0 S w0 w' L'→Rn P f n R (.inRegion ops rest::k) e w')
 (ho:ops[i]?=some ⟨none,.store t x y,ty,pos,af,g⟩:=by exact rfl) (hx:ev e x=some (.pointer (some ⟨b,o,none⟩)):=by exact rfl) (hy:ev e y=some v:=by exact rfl) (hi:L[m]?=some (boxR b t' cs):=by exact rfl)
 (hg:gok e ops g=true:=by exact rfl) (hv:v.cells=vs.toArray:=by exact rfl) (hl:vs.length=s:=by exact rfl)
 (h1:∀ u∈vs,u.oneCell'=true:=by first | exact ones rfl | (simp [Value.oneCell'];done)) (hfit:o+vs.length≤cs.length:=by first | exact nbl rfl | (simp;done))
 (hc:setL cs o vs=cs':=by repeat (first | exact ncN rfl | apply ncC rfl)) (hL:L.set m (boxR b t' cs')=L':=by repeat (first | exact nfN rfl | apply nfC rfl)):Rn P f n R (.inRegion ops (i::rest)::k) e w:=
 Rn.st ho hg hs hx hy hv hl h1 (hm.get m hi) hfit λw' hB hF=>h w' (hm.sn m hF hB hi hc hL)
end
section
variable {P:Program} {n:Nat} {K:Act→World→Prop} {e:Env} {w w' w0:World} {ops:Array Oper} {fuel:Nat} {listed:Array Bool} {ty:TypeId} {pos:String} {af:Array Edge} {g:Option (Nat×Bool)} {Z0 S:Nat→Prop} {L L':List Rs} {T:World→Prop}
theorem RH.sn {t:TypeId} {x y:Operand} {b o s:Nat} {t':TypeId} {cs vs cs':List Value} {v:Value} (i:Nat) (hm:Hp Z0 S w0 w L) (m:Nat) (hs:∀ w,(sizeOf t).run P w=.ok s w)
 (h:∀ w',Hp Z0 S w0 w' L'→T w'∧RG P n K ops T fuel (listed.setIfInBounds i true) e w')
 (hr:Region.ready .any ops listed=[i]:=by kernel_rfl) (ho:ops[i]?=some ⟨none,.store t x y,ty,pos,af,g⟩:=by exact rfl) (hx:ev e x=some (.pointer (some ⟨b,o,none⟩)):=by exact rfl) (hy:ev e y=some v:=by exact rfl) (hi:L[m]?=some (boxR b t' cs):=by exact rfl)
 (hg:gok e ops g=true:=by exact rfl) (hv:v.cells=vs.toArray:=by exact rfl) (hl:vs.length=s:=by exact rfl)
 (h1:∀ u∈vs,u.oneCell'=true:=by first | exact ones rfl | (simp [Value.oneCell'];done)) (hfit:o+vs.length≤cs.length:=by first | exact nbl rfl | (simp;done))
 (hc:setL cs o vs=cs':=by repeat (first | exact ncN rfl | apply ncC rfl)) (hL:L.set m (boxR b t' cs')=L':=by repeat (first | exact nfN rfl | apply nfC rfl)):RG P n K ops T (fuel+1) listed e w:=
 RH.st i hr ho hg hs hx hy hv hl h1 (hm.get m hi) hfit λw' hB hF=>h w' (hm.sn m hF hB hi hc hL)
theorem RB.sn {t:TypeId} {x y:Operand} {b o s:Nat} {t':TypeId} {cs vs cs':List Value} {v:Value} (i:Nat) (hm:Hp Z0 S w0 w L) (m:Nat) (hs:∀ w,(sizeOf t).run P w=.ok s w)
 (h:∀ w',Hp Z0 S w0 w' L'→T w'∧RG P n K ops T fuel (listed.setIfInBounds i true) e w')
 (ho:ops[i]?=some ⟨none,.store t x y,ty,pos,af,g⟩:=by exact rfl) (hx:ev e x=some (.pointer (some ⟨b,o,none⟩)):=by exact rfl) (hy:ev e y=some v:=by exact rfl) (hi:L[m]?=some (boxR b t' cs):=by exact rfl)
 (hg:gok e ops g=true:=by exact rfl) (hv:v.cells=vs.toArray:=by exact rfl) (hl:vs.length=s:=by exact rfl)
 (h1:∀ u∈vs,u.oneCell'=true:=by first | exact ones rfl | (simp [Value.oneCell'];done)) (hfit:o+vs.length≤cs.length:=by first | exact nbl rfl | (simp;done))
 (hc:setL cs o vs=cs':=by repeat (first | exact ncN rfl | apply ncC rfl)) (hL:L.set m (boxR b t' cs')=L':=by repeat (first | exact nfN rfl | apply nfC rfl)):RB P n K ops T fuel listed i e w:=
 RB.st i ho hg hs hx hy hv hl h1 (hm.get m hi) hfit λw' hB hF=>h w' (hm.sn m hF hB hi hc hL)
end
end Go.Wk
set_option linter.unusedVariables false
set_option linter.unusedSimpArgs false
namespace Go.Wk
open Go Go.RowKit
theorem bl_eq (x y:List UInt8):Op.bytesLess x y=decide (x<y):=Go.Proofs.bytesLess_eq x y
theorem bl_iff {x y:List UInt8}:Op.bytesLess x y=true↔x<y:=by rw [bl_eq];simp
theorem tle_trans {a b c:List UInt8} (h1:a≤b) (h2:b≤c):a≤c:=List.le_trans h1 h2
theorem tle_total (a b:List UInt8):a≤b∨b≤a:=List.le_total a b
theorem tnlt {a b:List UInt8} (h:¬a<b):b≤a:=List.not_lt.1 h
theorem tle_anti {a b:List UInt8} (h1:a≤b) (h2:b≤a):a=b:=List.le_antisymm h1 h2
theorem tlt_of {a b:List UInt8} (h:a≤b) (hne:a≠b):a<b:=by
 rcases Decidable.em (a<b) with hh|hh
 ·exact hh
 ·exact absurd (tle_anti h (tnlt hh)) hne
section
variable {α:Type} (key:α→List UInt8)
variable {key}
end
section
variable {α:Type}
theorem lookP_none {key:List UInt8} {l:Kv α}:lookP key l=none↔∀ p∈l,p.1≠key:=by
 unfold lookP;rw [Option.map_eq_none_iff,List.find?_eq_none];simp
theorem lookP_mem {key:List UInt8} {x:α} {l:Kv α} (h:lookP key l=some x):(key,x)∈l:=by
 unfold lookP at h;obtain ⟨p,h1,rfl⟩:=Option.map_eq_some_iff.1 h;have h2:=List.find?_some h1;have h3:=List.mem_of_find?_eq_some h1
 have:p.1=key:=by simpa using h2
 subst this;exact h3
theorem nodup_un {l:Kv α} (hn:(l.map (·.1)).Nodup) {k:List UInt8} {x y:α} (h1:(k,x)∈l) (h2:(k,y)∈l):x=y:=by
 obtain ⟨i,hi,e1⟩:=List.getElem_of_mem h1;obtain ⟨j,hj,e2⟩:=List.getElem_of_mem h2
 have:i=j:=by
  have e:(l.map (·.1))[i]?=(l.map (·.1))[j]?:=by simp [hi,hj,e1,e2]
  exact (List.getElem?_inj (by simpa using hi) hn).1 e
 subst this;rw [e1] at e2;exact (Prod.mk.inj e2).2
theorem lookP_of_mem {l:Kv α} (hn:(l.map (·.1)).Nodup) {k:List UInt8} {x:α} (h:(k,x)∈l):lookP k l=some x:=by
 cases hl:lookP k l with
 | none=>exact absurd rfl (lookP_none.1 hl _ h)
 | some y=>rw [nodup_un hn (lookP_mem hl) h]
end
end Go.Wk
namespace Go.Wk
open Go Go.RowKit
end Go.Wk
set_option linter.unusedVariables false
set_option linter.unusedSimpArgs false
namespace Go.Wk
open Go Go.RowKit Go.WideShapes Go.ChangeShapes
section
variable {H:Type} {enc:TypeId×Value→H} {P:Program}
theorem trodAll_stays {W W':World} {sp:Nat→Bool} (hl:laidOutB P=true):∀ {ts:List TypeId} {vs:List Value} {ds:List (DataW H)} {ps:List MemPlace},(∀ t∈ts,P.readableRec t=true∧t<P.types.size) →
 DataW.TrodAll enc P W 0 (λ_=>true) true ts vs ds ps→(∀ x∈ps,W.sameAt W' x)→(∀ x∈ps,sp x.block=true)→DataW.TrodAll enc P W' 0 sp true ts vs ds ps
 | [],vs,ds,ps,_,h,_,_=>by obtain ⟨rfl,rfl,rfl⟩:=trodAll_nil h;exact trodAll_mk0
 | t::ts,vs,ds,ps,hr,h,hs,hp=>by
  obtain ⟨v,vs',d,ds',p,q,rfl,rfl,rfl,h0,h1⟩:=trodAll_cons h;exact trodAll_cons_mk (WideElems.Trod_stays hl (hr t (by simp)).1 (hr t (by simp)).2 h0 (λx hx=>hs x (by simp [hx])) (λx hx=>hp x (by simp [hx])))
   (trodAll_stays hl (λt' ht=>hr t' (by simp [ht])) h1 (λx hx=>hs x (by simp [hx])) (λx hx=>hp x (by simp [hx])))
theorem post_of_ext {f:Func} {s:ChangeSpec} {W W':World} {args:Array Value} {ds gs:List (DataW H)} {before:List MemPlace} {tb:TypeId} (hl:laidOutB P=true) (hr:∀ t∈f.params.toList,P.readableRec t=true∧t<P.types.size)
 (hW:DataW.Whole enc P f.params.toList s.vars false W args.toList ds gs before) (hv:s.vars=[]) (hres:f.resultTypes=#[tb]) (htb:P.underlying tb=some .bool)
 (h1:(s.fn H (ds++gs)).results=[.lit (.bool true)]) (h2:(s.fn H (ds++gs)).args=ds) (h3:(s.fn H (ds++gs)).vars=[]) (hE:Ext W W') :
 s.post enc P f false true false false W args (.bool true) W':=by
 have hb:=hE.below;have hW0:=hW;obtain ⟨p,q,hA,hV,hpq,hz,hn⟩:=hW;rw [hv] at hV;obtain ⟨rfl,rfl⟩:=trodVars_none hV
 have hlt:∀ x∈before,x.block<W.heap.size:=λx hx=>hW0.lt x hx
 have hpb:∀ x∈p,x∈before:=λx hx=>by rw [hpq];simpa using hx
 have hold:∀ x∈before,(λb=>decide (b<W.heap.size)) x.block=true:=λx hx=>by simpa using hlt x hx
 have hargs:∀ sp:Nat→Bool,(∀ x∈before,sp x.block=true)→DataW.TrodAll enc P W' 0 sp true f.params.toList args.toList (s.fn H (ds++[])).args p:=λsp hsp=>by
  rw [h2];exact trodAll_stays hl hr hA (λx hx=>hb.same (hlt x (hpb x hx))) (λx hx=>hsp x (hpb x hx))
 have hvars:∀ sp:Nat→Bool,DataW.TrodVars enc P W' sp s.vars (s.fn H (ds++[])).vars []:=λsp=>by rw [hv,h3];rfl
 have hresT:∀ (b:Nat) (sp:Nat→Bool) (hd:Bool),DataW.TrodAll enc P W' b sp hd f.resultTypes.toList ((Value.bool true).resultList f.resultTypes.size) (s.fn H (ds++[])).results []:=λb sp hd=>by
  rw [h1,hres];exact trodAll_cons_mk (shut_bool htb _) trodAll_mk0
 refine ⟨ds,[],before,[],p,[],hW0,hresT _ _ _,hargs _ hold,hvars _,World.keptBut_mono (λx hx=>⟨hx,?_⟩) (hb.frame (·∈before)),λ_=>?_⟩
 ·rw [hpq,List.mem_append] at hx;exact Or.inr hx
 ·refine ⟨ok_one hres rfl (okWide_bool_mk htb _),_,_,([]++p)++[],⟨[]++p,[],trodAll_append (hargs _ (λ_ _=>rfl)) (hresT _ _ _),hvars _,rfl,?_,?_⟩,?_⟩
  ·intro b off hp
   have hin:MemPlace.cell b off∈before:=by rw [hpq];simpa using hp
   rw [hb.frozen (hlt _ hin)];exact hz b off hin
  ·intro ha;cases ha
  ·intro x hx _
   rw [hpq];simpa using hx
end
end Go.Wk
namespace Go.Wk
open Go Go.RowKit Go.WideShapes Go.ChangeShapes
section
variable {H:Type} {enc:TypeId×Value→H} {P:Program} {w:World} {sp:Nat→Bool} {hd:Bool}
theorem list_of {α:Type} {p:Nat→α→Prop}:∀ (n:Nat),(∀ i,i<n→∃ z,p i z)→∃ xs:List α,xs.length=n∧∀ k x,xs[k]?=some x→p k x
 | 0,_=>⟨[],rfl,λk x h=>by simp at h⟩
 | n+1,h=>by
  obtain ⟨xs,h1,h2⟩:=list_of n λi hi=>h i (by omega)
  obtain ⟨z,hz⟩:=h n (by omega);refine ⟨xs++[z],by simp [h1],λk x hx=>?_⟩
  by_cases hk:k<xs.length
  ·rw [List.getElem?_append_left hk] at hx;exact h2 k x hx
  ·rw [List.getElem?_append_right (by omega)] at hx
   have hk0:k-xs.length=0:=by
    rcases Nat.eq_zero_or_pos (k-xs.length) with hh|hh
    ·exact hh
    ·rw [List.getElem?_eq_none (by simp;omega)] at hx;cases hx
   rw [hk0] at hx;simp at hx;subst hx
   have:k=n:=by omega
   subst this;exact hz
end
end Go.Wk
set_option linter.unusedVariables false
set_option linter.unusedSimpArgs false
namespace Go.Wk
open Go Go.RowKit Go.WideShapes Go.ChangeShapes
section
variable {H:Type} {enc:TypeId×Value→H} {P:Program} {w:World} {sp:Nat→Bool} {hd:Bool}
def ReadsP {α:Type} (enc:TypeId×Value→H) (P:Program) (w:World) (sp:Nat→Bool) (hd:Bool) (e:TypeId) (rep:Rep α) (Q:α→Prop):Prop:=∀ n cs x,DataW.trod enc P w 0 sp hd n e cs=some x→∃ z,rep.rel All w cs z∧Q z
theorem reads_int {q:IntKind} {t:TypeId} (ht:P.underlying t=some (.int q)):ReadsP enc P w sp hd t (intR q) (λz=>(Lit.int q z).wf=true):=by
 intro n cs x h;obtain ⟨z,rfl,_,hw⟩:=DataW.trod_int ht h;exact ⟨z,⟨rfl,trivial⟩,hw⟩
theorem reads_w64 {t:TypeId} (ht:P.underlying t=some (.int .u64)):ReadsP enc P w sp hd t w64R (λ_=>True):=by
 intro n cs x h;obtain ⟨z,rfl,_,hw⟩:=DataW.trod_int ht h;obtain ⟨h0,h1⟩:=bounds_u64 hw;refine ⟨UInt64.ofNat z.toNat,⟨?_,trivial⟩,trivial⟩;show [Value.int .u64 z]=[Value.int .u64 _]
 congr 2
 rw [UInt64.toNat_ofNat'];omega
theorem reads_bool {t:TypeId} (ht:P.underlying t=some .bool):ReadsP enc P w sp hd t boolR (λ_=>True):=by
 intro n cs x h;obtain ⟨z,rfl,_⟩:=DataW.trod_bool ht h;exact ⟨z,⟨rfl,trivial⟩,trivial⟩
theorem reads_text {t:TypeId} (ht:P.underlying t=some .string):ReadsP enc P w sp hd t textR (λz=>z.length≤maxLen):=by
 intro n cs x h;obtain ⟨s,rfl,_,hw⟩:=DataW.trod_string ht h;refine ⟨s.data.toList,⟨?_,trivial⟩,by simpa using hw⟩;show [Value.string s]=[Str s.data.toList];simp [Str]
theorem reads_slP {α:Type} {rep:Rep α} {Q:α→Prop} {t e:TypeId} (ht:P.underlying t=some (.slice e)) (hsz:P.cellsOf e=rep.sz) (hr:ReadsP enc P w sp hd e rep Q):ReadsP enc P w sp hd t (Rep.sl rep) (λl=>l.length≤maxLen∧∀ z∈l,Q z):=by
 intro n cs x h
 rcases Go.Deep.open_slice ht h with ⟨rfl,_⟩|⟨a,len,cap,m,n',D,Pl,rfl,_,hl,hm,hmm,_,hi⟩
 ·exact ⟨[],⟨none,0,rfl,Nat.le_refl _,Nat.zero_le _,Sl.nil _ _ _ _⟩,Nat.zero_le _,λ_ h=>(by cases h)⟩
 ·have hlm:len≤m:=by rw [hmm];split<;>omega
  obtain ⟨xs,h1,h2⟩:=list_of (p:=λi z=>∃ cs',w.cells? 0 (a.add (i*rep.sz)) rep.sz=some cs'∧rep.rel All w cs' z∧Q z) len (λi hlt=>by
   obtain ⟨cs',hc,htr⟩:=hi i (by omega);rw [hsz] at hc;obtain ⟨z,hz⟩:=hr _ _ _ htr
   exact ⟨z,cs',hc,hz⟩)
  subst h1
  have hQ:xs.length≤maxLen∧∀ z∈xs,Q z:=⟨Nat.le_trans hl hm,λz hz=>by
   obtain ⟨k,hk,rfl⟩:=List.getElem_of_mem hz;obtain ⟨_,_,_,hq⟩:=h2 k _ (List.getElem?_eq_getElem hk)
   exact hq⟩
  refine ⟨xs,⟨some a,cap,rfl,hl,hm,λhne=>?_⟩,hQ⟩
  have hnone:a.spot=none:=by
   cases xs with
   | nil=>exact (hne rfl).elim
   | cons z r=>
    obtain ⟨cs',hc,hz,_⟩:=h2 0 z rfl;obtain ⟨_,hlen,hcell⟩:=World.cells?_some hc;have h0:=hcell 0 rep.pos;have hpos:=rep.pos;obtain ⟨b,o,s⟩:=a
    cases s with
    | none=>rfl
    | some s=>
     have hx:cs'[0]?=some cs'[0]:=List.getElem?_eq_getElem (by omega);rw [hx] at h0;simp only [World.cell?,Addr.add,Nat.zero_mul,if_true] at h0
     split at h0<;>simp at h0
  obtain ⟨b,o,s⟩:=a
  cases hnone
  refine ⟨b,o,rfl,trivial,λk x hx=>?_⟩;obtain ⟨cs',hc,hz,_⟩:=h2 k x hx;obtain ⟨_,hlen,hcell⟩:=World.cells?_some hc;refine ⟨cs',λj v hv=>?_,hz⟩
  have hj:j<rep.sz:=by rw [← hlen];exact lt_of_get hv
  have:=hcell j hj;rw [Addr.add_none,Addr.add_none] at this;rw [this];exact hv
theorem two_at {α β:Type} {r:Rep α} {r':Rep β} {D:Nat→Prop} {cs:List Value} {x:α} {y:β} (o s:Nat) (h:r.rel D w ((cs.drop o).take s) x) (h':r'.rel D w (cs.drop (o+s)) y):(Rep.two r r').rel D w (cs.drop o) (x,y):=
 ⟨(cs.drop o).take s,cs.drop (o+s),by rw [← List.drop_drop,List.take_append_drop],h,h'⟩
theorem last_at {α:Type} {r:Rep α} {D:Nat→Prop} {cs:List Value} {x:α} (o s:Nat) (hl:cs.length=o+s) (h:r.rel D w ((cs.drop o).take s) x):r.rel D w (cs.drop o) x:=by
 rw [List.take_of_length_le (by simp;omega)] at h;exact h
theorem some_at {α:Type} {xs:List α} {n:Nat} (i:Nat) (hl:xs.length=n) (h:i<n):∃ y,xs[i]?=some y:=⟨xs[i]'(by omega),List.getElem?_eq_getElem (by omega)⟩
theorem arg_int {q:IntKind} {t:TypeId} {v:Value} {r:Reach} {b0:Nat} {d:DataW H} {p:List MemPlace} (ht:P.underlying t=some (.int q)) (hval:Value.okWide P w r b0 t v) (h:DataW.Trod enc P w 0 sp hd t v d p):∃ z:Int,v=.int q z∧(Lit.int q z).wf=true:=by
 obtain ⟨z,h1,_,_,h2⟩:=open_int ht hval h;exact ⟨z,h1,h2⟩
theorem arg_slice {α:Type} {rep:Rep α} {Q:α→Prop} {t e:TypeId} {v:Value} {r:Reach} {b0:Nat} {d:DataW H} {p:List MemPlace} (ht:P.underlying t=some (.slice e)) (hsz:P.cellsOf e=rep.sz) (hr:ReadsP enc P w sp hd e rep Q) (hval:Value.okWide P w r b0 t v) (h:DataW.Trod enc P w 0 sp hd t v d p) :
 ∃ (l:List α) (A:Option Addr) (c:Nat),v=.slice A l.length c∧(slR A c rep l).H All w∧l.length≤maxLen∧∀ z∈l,Q z:=by
 obtain ⟨ad,len,cap,rfl⟩:=okWide_slice ht hval;obtain ⟨f,hf⟩:=h;obtain ⟨l,⟨A,c,hcs,hlc,hcm,hS⟩,hq⟩:=reads_slP ht hsz hr _ _ _ hf;exact ⟨l,A,c,by simpa [Value.cells] using hcs,⟨hlc,hcm,hS⟩,hq⟩
theorem arg_agg {α:Type} {rep:Rep α} {Q:α→Prop} {t:TypeId} {fs:Array Field} {v:Value} {r:Reach} {b0:Nat} {d:DataW H} {p:List MemPlace} (ht:P.underlying t=some (.struct fs)) (hr:ReadsP enc P w sp hd t rep Q) (hval:Value.okWide P w r b0 t v) (h:DataW.Trod enc P w 0 sp hd t v d p) :
 ∃ (z:α) (cs:List Value),v=.agg cs.toArray∧rep.rel All w cs z∧Q z:=by
 obtain ⟨a,rfl,_⟩:=okWide_struct ht hval;obtain ⟨f,hf⟩:=h;obtain ⟨z,hz,hq⟩:=hr _ _ _ hf;exact ⟨z,a.toList,by simp,by simpa [Value.cells] using hz,hq⟩
end
end Go.Wk
