import Derived.Test.YtpcpfjpcfcbopaaGreatDoorVC1
import Derived.Lib.AppendStr
import Derived.Lib.UnsafeStr
import Derived.Lib.Builder
import Derived.Lib.Bytealg
import Derived.Laws.Externs
import Derived.StillTail
import Derived.Sort.KeysCollected
import Derived.Maps.Own
import Derived.Shelf.SlIter.Nil
import Derived.Deep.AppendSrc
import Derived.RangeFuncNested
import Derived.RangeFuncBound
import Derived.RangeFuncCalls
import Derived.RangeFuncLeaves
import Derived.Sort.Walk0
import Derived.Test.YtpcpfjpcfcbopaaGreatDoorRows
import Derived.WalkKit
import Derived.ProofKit
import Derived.OpenShut
import Derived.JoinedCond
import Derived.Carry
import Derived.Below
import Derived.ChangeSame
import Derived.Deep.Slices
import Derived.Deep.Fields
set_option linter.unusedVariables false
set_option linter.unusedSimpArgs false
namespace Go.Wk
open Go Go.RowKit
section
variable {P:Program} {f:FuncId} {n:Nat} {R:Ending→World→Prop} {k:List Item} {e:Env} {w:World}
variable {ops:Array Oper} {i:Nat} {rest:List Nat} {d:Nat} {dst:Option Nat} {ty:TypeId} {pos:String} {af:Array Edge} {g:Option (Nat×Bool)}
theorem V.extern {gg : FuncId} {fn : Func} {en : Array Value → Sem Value} {xs : List Operand} {vs : List Value} {ts : Array TypeId} {v : Value} (hf : P.funcs[gg]? = some fn) (hname : (fn.name == "runtime.NumGoroutine") = false) (hb : fn.body.isNone = true) (hn : Extern.findNext fn = none) (he : Extern.find fn = some en)
 (hx:evs e xs=some vs) (hr:(en vs.toArray).run P w=.ok v w):OpV P n e w ⟨dst,.call { callee:=.value (.func gg),args:=xs.toArray,argTypes:=ts },ty,pos,af,g⟩ v w:=λa hfit=>by
 simp [execOp,resolve,Act.eval,Deferred.ofValue,invoke,evs_map hfit hx,run_callFunc_extern hf hname hb hn he,hr]
theorem V.indexByte {gg : FuncId} {fn : Func} {x y : Operand} {ts : Array TypeId} {s : List UInt8} {c : UInt8} (hf : P.funcs[gg]? = some fn) (hname : (fn.name == "runtime.NumGoroutine") = false) (hb : fn.body.isNone = true) (hn : Extern.findNext fn = none) (he : Extern.find fn = some Extern.BytealgIndexByte.indexByte)
 (hx:evs e [x,y]=some [Str s,.int .u8 c.toNat]):OpV P n e w ⟨dst,.call { callee:=.value (.func gg),args:=#[x,y],argTypes:=ts },ty,pos,af,g⟩ (.int .i64 (Lib.indexByte s c)) w:=by
 have h:=Lib.run_indexByteString (P:=P) (⟨s.toArray⟩:ByteArray) (c.toNat:Int) w
 have hc:(c.toNat:Int).toNat.toUInt8=c:=by simp
 rw [hc] at h;exact V.extern (xs:=[x,y]) hf hname hb hn he hx h
end
section
variable {P:Program} {f:FuncId} {n:Nat} {R:Ending→World→Prop} {k:List Item} {e:Env} {w:World}
variable {ops:Array Oper} {i:Nat} {rest:List Nat} {d:Nat} {dst:Option Nat} {ty:TypeId} {pos:String} {af:Array Edge} {g:Option (Nat×Bool)}
end
end Go.Wk
namespace Go.Wk
open Go Go.RowKit
section
variable {P:Program} {n:Nat} {e:Env} {w:World} {dst:Option Nat} {ty:TypeId} {pos:String} {af:Array Edge} {g:Option (Nat×Bool)}
end
theorem clone_get {α:Type} {Z:Nat→Prop} {w:World} {rep:Rep α} {xs:List α} {c:Nat} (h:(slR none c rep xs).H Z w):xs=[]:=h.2.2.nil_of
end Go.Wk
set_option linter.unusedVariables false
set_option linter.unusedSimpArgs false
namespace Go.Wk
open Go Go.RowKit
theorem W64_id {z:Int} (h0:-9223372036854775808≤z) (h1:z≤9223372036854775807):W64 z=z:=by
 unfold W64 IntKind.wrap;simp [IntKind.signed,IntKind.bits]
 split<;>omega
theorem idx_nat {α:Type} (l:List α) (k:Nat):idx l (k:Int)=l[k]?:=by unfold idx;simp
theorem idx_mid {α:Type} (p:List α) (x:α) (q:List α):idx (p++x::q) (p.length:Int)=some x:=by rw [idx_nat];simp
theorem idx_mid' {α:Type} {p:List α} {x:α} {q:List α} {i:Int} (h:i=p.length):idx (p++x::q) i=some x:=by rw [h];exact idx_mid p x q
theorem idx0 {α:Type} (x:α) (q:List α):idx (x::q) 0=some x:=rfl
theorem cut_mid {α:Type} (p q:List α):cutL (p++q) 0 (p.length:Int)=some p:=by
 unfold cutL;rw [if_pos (by simp;omega)];simp
theorem cut_end {α:Type} (p q:List α):cutL (p++q) (p.length:Int) ((p++q).length:Int)=some q:=by
 unfold cutL;rw [if_pos (by simp;omega)];congr 1;rw [Int.toNat_natCast,Int.toNat_natCast,List.take_length,List.drop_left]
theorem cut_some {α:Type} {l:List α} {a b:Int} (h0:0≤a) (h1:a≤b) (h2:b≤l.length):cutL l a b=some ((l.take b.toNat).drop a.toNat):=by unfold cutL;rw [if_pos ⟨h0,h1,h2⟩]
theorem app_some {α:Type} {l m:List α} (h:l.length+m.length≤1073741824):appL l m=some (l++m):=by unfold appL;rw [if_pos h]
theorem len_some {a:List UInt8} (h:a.length≤1073741824):lenS a=some a:=by unfold lenS;rw [if_pos h]
theorem bndS {α β:Type} (a:α) (f:α→Option β):(some a).bind f=f a:=Eq.trans rfl rfl
theorem fuelS (k:Nat) (h:k≤1000000):∃ m,fuel=m+k:=⟨fuel-k,(Nat.sub_add_cancel (Nat.le_trans h (by unfold fuel;exact Nat.le_of_ble_eq_true rfl))).symm⟩
theorem jn_eq {α β:Type} (F:α) (B:α→β):jn F B=B F:=Eq.trans rfl rfl
def scan {α S R:Type} (B:Nat→α→S→(S→Option R)→Option R) (J:S→Option R):Nat→List α→S→Option R
 | _,[],s=>J s
 | i,x::l,s=>B i x s λs'=>scan B J (i+1) l s'
theorem scan_eq {α S R:Type} (l:List α) (hl:l.length<4611686018427387904) (L:Nat→S→Int→Option R) (B:Nat→α→S→(S→Option R)→Option R) (J:S→Option R)
 (h:∀ n s (i:Nat),i≤l.length→L (n+1) s i=if h:i<l.length then B i l[i] s (λs'=>L n s' ((i+1:Nat):Int)) else J s) (s:S):L fuel s 0=scan B J 0 l s:=by
 have key:∀ n (q p:List α) s,p++q=l→q.length<n→L n s (p.length:Int)=scan B J p.length q s:=by
  intro n
  induction n with
  | zero=>intro q p s _ h;omega
  | succ n ih=>
   intro q p s hpq hn;rw [h n s p.length (by rw [← hpq];simp)]
   cases q with
   | nil=>rw [dif_neg (by rw [← hpq];simp)];rfl
   | cons x q=>
    rw [dif_pos (by rw [← hpq];simp)]
    have hx:l[p.length]'(by rw [← hpq];simp)=x:=by simp [← hpq]
    rw [hx];show _=B p.length x s _
    congr 1
    funext s'
    have:=ih q (p++[x]) s' (by simpa using hpq) (by simp at hn;omega);simpa using this
 exact key fuel l [] s rfl (by unfold fuel;omega)
end Go.Wk
namespace Go.Wk
theorem ite_cong {α:Type} {p q:Prop} [Decidable p] [Decidable q] {a b c d:α} (h:p↔q) (h1:q→a=c) (h2:¬q→b=d):(if p then a else b)=if q then c else d:=by
 by_cases hq:q
 ·rw [if_pos hq,if_pos (h.2 hq)];exact h1 hq
 ·rw [if_neg hq,if_neg (λhp=>hq (h.1 hp))];exact h2 hq
theorem ite_neg {α:Type} {p q:Prop} [Decidable p] [Decidable q] {a b c d:α} (h:p↔¬q) (h1:¬q→a=d) (h2:q→b=c):(if p then a else b)=if q then c else d:=by
 by_cases hq:q
 ·rw [if_pos hq,if_neg (λhp=>(h.1 hp) hq)];exact h2 hq
 ·rw [if_neg hq,if_pos (h.2 hq)];exact h1 hq
def scanL {α S R:Type} (l:List α) (s:S) (B:Nat→α→S→(S→Option R)→Option R) (J:S→Option R):Option R:=scan B J 0 l s
theorem idx_at {α:Type} {l:List α} {i:Nat} (h:i<l.length):idx l (i:Int)=some l[i]:=by rw [idx_nat,List.getElem?_eq_getElem h]
theorem W64_up {i:Nat} (h:i+1≤9223372036854775807):W64 ((i:Int)+1)=((i+1:Nat):Int):=by rw [W64_id (by omega) (by omega)];rfl
theorem scanQ {α S R:Type} {l:List α} {B:Nat→α→S→(S→Option R)→Option R} {J:S→Option R} (hl:l.length<4611686018427387904) (L:Nat→S→Int→Option R) (s:S)
 (h:∀ (n:Nat) (t:S) (i:Nat),i≤l.length→L (n+1) t (i:Int)=if hh:i<l.length then B i l[i] t (λs'=>L n s' ((i+1:Nat):Int)) else J t:=by
  intro n t i hi;refine Eq.trans (b:=ite _ _ _) rfl ?_
  split
  ·rename_i h;rw [dif_pos (Int.ofNat_lt.1 h)];simp only [idx_at (Int.ofNat_lt.1 h),W64_up (show i+1≤9223372036854775807 by omega)]
  ·rename_i h;rw [dif_neg (λk=>h (Int.ofNat_lt.2 k))]):L fuel s 0=scanL l s B J:=by
 unfold scanL;exact scan_eq l hl L B J h s
section
variable {α S R:Type} {l:List α} {s:S} {B:Nat→α→S→(S→Option R)→Option R} {J:S→Option R}
theorem scan_cons {i:Nat} {x:α}:scan B J i (x::l) s=B i x s λs'=>scan B J (i+1) l s':=rfl
theorem scan_all (p:α→Bool) (N:Option R) (i:Nat) (h:∀ i' x k,i≤i'→x∈l→B i' x s k=if p x=true then k s else N):scan B J i l s=if l.all p=true then J s else N:=by
 induction l generalizing i with
 | nil=>rfl
 | cons x l ih=>
  rw [scan_cons,h i x _ (by omega) (by simp),ih (i+1) (λi' y k hi hy=>h i' y k (by omega) (by simp [hy])),List.all_cons]
  cases hp:p x<;>simp
theorem scanL_all (p:α→Bool) (N:Option R) (h:∀ i x k,x∈l→B i x s k=if p x=true then k s else N):scanL l s B J=if l.all p=true then J s else N:=
 scan_all p N 0 λi x k _ hx=>h i x k hx
theorem scanL_inv (I:List α→S→Prop) (F:List α→List α→S→Option R) (hI:I [] s) (h0:∀ s,I l s→J s=F l [] s)
 (h1:∀ p x q s k,p++x::q=l→I p s→(∀ s',I (p++[x]) s'→k s'=F (p++[x]) q s')→B p.length x s k=F p (x::q) s):scanL l s B J=F [] l s:=by
 have key:∀ (q p:List α) (s:S),p++q=l→I p s→scan B J p.length q s=F p q s:=by
  intro q
  induction q with
  | nil=>intro p s hp hI;rw [List.append_nil] at hp;subst hp;exact h0 s hI
  | cons x q ih=>
   intro p s hp hI
   refine h1 p x q s _ hp hI λs' hI'=>?_
   have:=ih (p++[x]) s' (by simpa using hp) hI';simpa using this
 exact key l [] s rfl hI
theorem scanL_pre (F:List α→List α→S→Option R) (h0:∀ s,J s=F l [] s)
 (h1:∀ p x q s k,p++x::q=l→(∀ s',k s'=F (p++[x]) q s')→B p.length x s k=F p (x::q) s):scanL l s B J=F [] l s:=
 scanL_inv (λ_ _=>True) F trivial (λs _=>h0 s) λp x q s k hp _ hk=>h1 p x q s k hp λs'=>hk s' trivial
theorem scanL_fold (f:S→α→S) (h:∀ i x s k,x∈l→B i x s k=k (f s x)):scanL l s B J=J (l.foldl f s):=by
 unfold scanL;generalize 0=i
 induction l generalizing s i with
 | nil=>rfl
 | cons x l ih=>rw [scan_cons,h i x s _ (by simp),List.foldl_cons];exact ih (λi y s k hy=>h i y s k (by simp [hy])) (i+1)
end
end Go.Wk
set_option linter.unusedVariables false
set_option linter.unusedSimpArgs false
namespace Go.Wk
open Go Go.RowKit
def Apart (L:List Rs):Prop:=∀ (i j:Nat) a b,i≠j→L[i]?=some a→L[j]?=some b→∀ x,a.F x→¬b.F x
def objR (F:Nat→Prop) (P:List Rs→Prop):Rs where
 F:=F
 H:=λZ w=>∃ L,P L∧(∀ x,F x↔LS L x)∧(∀ (i:Nat) r,L[i]?=some r→r.H Z w)∧Apart L
 keep:=λ⟨L,h1,h2,h3,h4⟩ hF hZ hZ'=>⟨L,h1,h2,λi r hi=>r.keep (h3 i r hi) (λb hb hlt=>hF b ((h2 b).2 ⟨i,r,hi,hb⟩) hlt) hZ hZ',h4⟩
 lt:=λ⟨L,_,h2,h3,_⟩ b hb=>by obtain ⟨i,r,hi,hr⟩:=(h2 b).1 hb;exact r.lt (h3 i r hi) b hr
section
variable {Z0 S:Nat→Prop} {w0 w:World} {L K M:List Rs} {P:List Rs→Prop} {F:Nat→Prop}
theorem erase_get {L:List Rs} {i:Nat} {j:Nat} {r:Rs} (h:(L.eraseIdx i)[j]?=some r):∃ j',j'≠i∧L[j']?=some r∧(j'=if j<i then j else j+1):=by
 rw [List.getElem?_eraseIdx] at h
 split at h
 ·rename_i hj;exact ⟨j,by omega,h,by rw [if_pos hj]⟩
 ·rename_i hj;exact ⟨j+1,by omega,h,by rw [if_neg hj]⟩
theorem Hp.unf (hm:Hp Z0 S w0 w L) (i:Nat) (hi:L[i]?=some (objR F P)):∃ M,P M∧Hp Z0 S w0 w (L.eraseIdx i++M):=by
 obtain ⟨M,hP,hF,hH,hA⟩:=hm.hs i _ hi
 have hz:∀ b,Zo Z0 S w0 L b→Zo Z0 S w0 (L.eraseIdx i++M) b:=λb ⟨h1,h2⟩=>⟨h1,λj r hj hr=>by
  rcases get_app hj with hj|⟨_,hj⟩
  ·obtain ⟨j',_,hj',_⟩:=erase_get hj;exact h2 j' r hj' hr
  ·exact h2 i _ hi ((hF b).2 ⟨_,r,hj,hr⟩)⟩
 refine ⟨M,hP,hm.fr,?_,?_,?_⟩
 ·intro j r hj
  rcases get_app hj with hj|⟨_,hj⟩
  ·obtain ⟨j',_,hj',_⟩:=erase_get hj
   exact r.keep (hm.hs j' r hj') (λ_ _ _=>rfl) (λ_ _ _=>rfl) λb hb _=>hz b hb
  ·exact r.keep (hH _ r hj) (λ_ _ _=>rfl) (λ_ _ _=>rfl) λb hb _=>hz b hb
 ·intro j l a b hjl hj hl x hx hb
  rcases get_app hj with hj'|⟨hj1,hj'⟩
  ·obtain ⟨j2,hj2,hj3,ej⟩:=erase_get hj'
   rcases get_app hl with hl'|⟨_,hl'⟩
   ·obtain ⟨l2,hl2,hl3,el⟩:=erase_get hl'
    refine hm.ap j2 l2 a b ?_ hj3 hl3 x hx hb;rw [ej,el]
    split<;>split<;>omega
   ·exact hm.ap j2 i a _ hj2 hj3 hi x hx ((hF x).2 ⟨_,b,hl',hb⟩)
  ·rcases get_app hl with hl' | ⟨hl1,hl'⟩
   ·obtain ⟨l2,hl2,hl3,_⟩:=erase_get hl'
    exact hm.ap l2 i b _ hl2 hl3 hi x hb ((hF x).2 ⟨_,a,hj',hx⟩)
   ·exact hA _ _ a b (by omega) hj' hl' x hx hb
 ·intro j r hj x hx
  rcases get_app hj with hj|⟨_,hj⟩
  ·obtain ⟨j',_,hj',_⟩:=erase_get hj;exact hm.nw j' r hj' x hx
  ·exact hm.nw i _ hi x ((hF x).2 ⟨_,r,hj,hx⟩)
theorem Hp.fold (P:List Rs→Prop) (hm:Hp Z0 S w0 w (K++M)) (hP:P M):∃ F,Hp Z0 S w0 w (K++[objR F P]):=by
 refine ⟨LS M,hm.fr,?_,?_,?_⟩
 ·have hz:∀ b,Zo Z0 S w0 (K++M) b→Zo Z0 S w0 (K++[objR (LS M) P]) b:=λb ⟨h1,h2⟩=>⟨h1,λj r hj hr=>by
   rcases get_app hj with hj|⟨_,hj⟩
   ·exact h2 j r (get_left hj) hr
   ·generalize j-K.length=q at hj
    cases q with
    | zero=>cases hj;obtain ⟨l,a,hl,ha⟩:=hr;exact h2 _ a (get_right hl) ha
    | succ q=>simp at hj⟩
  intro j r hj
  rcases get_app hj with hj|⟨_,hj⟩
  ·exact r.keep (hm.hs j r (get_left hj)) (λ_ _ _=>rfl) (λ_ _ _=>rfl) λb hb _=>hz b hb
  ·generalize j-K.length=q at hj
   cases q with
   | zero=>
    cases hj
    exact ⟨M,hP,λx=>Iff.rfl,λl a hl=>a.keep (hm.hs _ a (get_right hl)) (λ_ _ _=>rfl) (λ_ _ _=>rfl) λb hb _=>hz b hb,λl q a b hlq hl hq=>hm.ap _ _ a b (by omega) (get_right hl) (get_right hq)⟩
   | succ q=>simp at hj
 ·intro j l a b hjl hj hl x hx hb
  rcases get_app hj with hj'|⟨hj1,hj'⟩
  ·rcases get_app hl with hl' | ⟨hl1,hl'⟩
   ·exact hm.ap j l a b hjl (get_left hj') (get_left hl') x hx hb
   ·generalize l-K.length=q at hl'
    cases q with
    | zero=>cases hl';obtain ⟨q,c,hq,hc⟩:=hb;exact hm.ap j (K.length+q) a c (by have:=lt_of_get hj';omega) (get_left hj') (get_right hq) x hx hc
    | succ q=>simp at hl'
  ·rcases get_app hl with hl' | ⟨hl1,hl'⟩
   ·generalize j-K.length=q at hj'
    cases q with
    | zero=>cases hj';obtain ⟨q,c,hq,hc⟩:=hx;exact hm.ap (K.length+q) l c b (by have:=lt_of_get hl';omega) (get_right hq) (get_left hl') x hc hb
    | succ q=>simp at hj'
   ·have e1:j-K.length=0:=by
     rcases Nat.eq_zero_or_pos (j-K.length) with h|h
     ·exact h
     ·rw [List.getElem?_eq_none (by simp;omega)] at hj';cases hj'
    have e2:l-K.length=0:=by
     rcases Nat.eq_zero_or_pos (l-K.length) with h|h
     ·exact h
     ·rw [List.getElem?_eq_none (by simp;omega)] at hl';cases hl'
    omega
 ·intro j r hj x hx
  rcases get_app hj with hj|⟨_,hj⟩
  ·exact hm.nw j r (get_left hj) x hx
  ·generalize j-K.length=q at hj
   cases q with
   | zero=>cases hj;obtain ⟨l,a,hl,ha⟩:=hx;exact hm.nw _ a (get_right hl) x ha
   | succ q=>simp at hj
theorem Hp.repl (hm:Hp Z0 S w0 w L) (i:Nat) {r:Rs} (r':Rs) (hi:L[i]?=some r) (hF:∀ x,r'.F x↔r.F x) (hH:∀ Z,r.H Z w→r'.H Z w):Hp Z0 S w0 w (L.set i r'):=
 hm.upd i r' hi (Fr.refl _ _) (λx hx=>.inl ((hF x).1 hx)) λZ' h1 _=>r'.keep (hH _ (hm.hs i r hi)) (λ_ _ _=>rfl) (λ_ _ _=>rfl) h1
def optR {α:Type} (o:Option α) (R:α→Rs):Rs where
 F:=λx=>∃ z,o=some z∧(R z).F x
 H:=λZ w=>∀ z,o=some z→(R z).H Z w
 keep:=λh hF hZ hZ' z hz=>(R z).keep (h z hz) (λb hb hlt=>hF b ⟨z,hz,hb⟩ hlt) hZ hZ'
 lt:=λh b ⟨z,hz,hb⟩=>(R z).lt (h z hz) b hb
def optP {α:Type} (b:Nat) (o:Option α):Option Addr:=match o with | some _=>some ⟨b,0,none⟩ | none=>none
theorem Hp.optSome {α:Type} {o:Option α} {R:α→Rs} {z:α} (hm:Hp Z0 S w0 w L) (i:Nat) (hi:L[i]?=some (optR o R)) (h:o=some z):Hp Z0 S w0 w (L.set i (R z)):=
 hm.repl i (R z) hi (λx=>⟨λhx=>⟨z,h,hx⟩,λ⟨z',h',hx⟩=>by rw [h] at h';cases h';exact hx⟩) λZ hh=>hh z h
theorem Hp.toSome {α:Type} {R:α→Rs} {z:α} (hm:Hp Z0 S w0 w L) (i:Nat) (hi:L[i]?=some (R z)):Hp Z0 S w0 w (L.set i (optR (some z) R)):=
 hm.repl i (optR (some z) R) hi (λx=>⟨λ⟨z',h',hx⟩=>by cases h';exact hx,λhx=>⟨z,rfl,hx⟩⟩) λZ hh z' h'=>by cases h';exact hh
theorem Hp.addNone {α:Type} (R:α→Rs) (hm:Hp Z0 S w0 w L):Hp Z0 S w0 w (L++[optR (none:Option α) R]):=
 hm.know _ (λx ⟨z,h,_⟩=>by cases h) λz h=>by cases h
def fzR (r:Rs):Rs where
 F:=No
 H:=λZ w=>r.H Z w∧∀ b,r.F b→Z b
 keep:=λ⟨h1,h2⟩ _ hZ hZ'=>⟨r.keep h1 (λb hb hlt=>hZ b (h2 b hb) hlt) hZ hZ',λb hb=>hZ' b (h2 b hb) (r.lt h1 b hb)⟩
 lt:=λ_ _ h=>h.elim
theorem fz_all {r:Rs} {Z:Nat→Prop} (h:r.H Z w):(fzR r).H All w:=⟨r.keep h (λ_ _ _=>rfl) (λ_ _ _=>rfl) (λ_ _ _=>trivial),λ_ _=>trivial⟩
theorem fz_fz {r:Rs} {Z:Nat→Prop} (h:(fzR r).H Z w):(fzR r).H All w:=fz_all h.1
theorem Hp.knowL:∀ (M:List Rs) (L:List Rs),Hp Z0 S w0 w L→(∀ r∈M,(∀ x,¬r.F x)∧r.H (Zo Z0 S w0 L) w)→Hp Z0 S w0 w (L++M)
 | [],L,hm,_=>by rw [List.append_nil];exact hm
 | r::M,L,hm,h=>by
  obtain ⟨h1,h2⟩:=h r (by simp);have hm':=hm.know r h1 h2
  have:=Hp.knowL M (L++[r]) hm' λr' hr'=>⟨(h r' (by simp [hr'])).1,r'.keep (h r' (by simp [hr'])).2 (λ_ _ _=>rfl) (λ_ _ _=>rfl) λb ⟨hb,hn⟩ _=>⟨hb,λj a hj ha=>by
   rcases get_app hj with hj|⟨_,hj⟩
   ·exact hn j a hj ha
   ·generalize j-L.length=q at hj
    cases q with
    | zero=>cases hj;exact h1 b ha
    | succ q=>simp at hj⟩⟩
  rw [List.append_assoc] at this;exact this
theorem kn0 {Q:Rs→Prop}:∀ r∈([]:List Rs),Q r:=λ_ h=>by cases h
theorem knC {Z:Nat→Prop} {a:Rs} {M:List Rs} (h1:∀ x,¬a.F x) (h2:a.H Z w) (h:∀ r∈M,(∀ x,¬r.F x)∧r.H Z w):∀ r∈a::M,(∀ x,¬r.F x)∧r.H Z w:=λr hr=>by
 rcases List.mem_cons.1 hr with rfl|hr
 ·exact ⟨h1,h2⟩
 ·exact h r hr
theorem Hp.know1 {a:Rs} {M:List Rs} (hm:Hp Z0 S w0 w (L++[a])) (ha:∀ x,¬a.F x) (h:∀ r∈M,(∀ x,¬r.F x)∧r.H (Zo Z0 S w0 L) w):Hp Z0 S w0 w (L++[a]++M):=
 Hp.knowL M (L++[a]) hm λr hr=>⟨(h r hr).1,r.keep (h r hr).2 (λ_ _ _=>rfl) (λ_ _ _=>rfl) λb ⟨hb,hn⟩ _=>⟨hb,λj c hj hc=>by
  rcases get_app hj with hj|⟨_,hj⟩
  ·exact hn j c hj hc
  ·generalize j-L.length=q at hj
   cases q with
   | zero=>cases hj;exact ha b hc
   | succ q=>simp at hj⟩⟩
theorem Hp.getz {r:Rs} (hm:Hp Z0 S w0 w L) (i:Nat) (hi:L[i]?=some (fzR r)):r.H (Zo Z0 S w0 L) w:=(hm.hs i _ hi).1
theorem Hp.unfz (hm:Hp Z0 S w0 w L) (i:Nat) (hi:L[i]?=some (fzR (objR F P))):∃ M,P M∧Hp Z0 S w0 w (L++M.map fzR):=by
 obtain ⟨⟨M,hP,hF,hH,hA⟩,hZ⟩:=hm.hs i _ hi;refine ⟨M,hP,Hp.knowL _ _ hm λr hr=>?_⟩;obtain ⟨a,ha,rfl⟩:=List.mem_map.1 hr;obtain ⟨j,hj,rfl⟩:=List.getElem_of_mem ha;exact ⟨λ_ h=>h,hH j _ (List.getElem?_eq_getElem hj),λb hb=>hZ b ((hF b).2 ⟨j,_,List.getElem?_eq_getElem hj,hb⟩)⟩
theorem Hp.fzSl {α:Type} {et:TypeId} {A:Option Addr} {c:Nat} {rep:Rep α} {xs:List α} (hm:Hp Z0 S w0 w L) (i:Nat) (hi:L[i]?=some (fzR (ownR et A c rep xs))):Hp Z0 S w0 w (L++[slR A c rep xs]):=by
 obtain ⟨h1,h2⟩:=hm.hs i _ hi;exact hm.know _ (λ_ h=>h) ⟨h1.1,h1.2.1,(Own.sl h1).mono λb hb=>hb.elim id (h2 b)⟩
end
section
variable {P:Program} {n:Nat} {e:Env} {w:World} {dst:Option Nat} {ty:TypeId} {pos:String} {af:Array Edge} {g:Option (Nat×Bool)}
theorem optP_none {α:Type} (b:Nat) (o:Option α):(optP b o).isNone=o.isNone:=by cases o<;>rfl
theorem V.eqlO {α:Type} {x y:Operand} {b:Nat} {o:Option α} {t el u:TypeId} (ht:P.underlying t=some (.pointer el)) (hx:ev e x=some (.pointer (optP b o))) (hy:ev e y=some (.pointer none)) :
 OpV P n e w ⟨dst,.binOp .eql t x y u,ty,pos,af,g⟩ (.bool o.isNone) w:=by
 have:=V.eqlP (P:=P) (n:=n) (w:=w) (dst:=dst) (ty:=ty) (pos:=pos) (af:=af) (g:=g) (u:=u) ht hx hy;rw [optP_none] at this;exact this
end
end Go.Wk
set_option linter.unusedVariables false
set_option linter.unusedSimpArgs false
namespace Go.Wk
open Go Go.RowKit
def hd0 (ops:Array Oper) (n0:Nat):Array Bool:=(List.range n0).foldl (λl i=>l.setIfInBounds i true) (Array.replicate ops.size false)
def headOk (ops:Array Oper) (n0:Nat):Nat→Nat→Array Bool→Bool
 | 0,_,listed=>(Region.ready .any ops listed).all λj=>Nat.ble n0 j
 | f+1,k,listed=>(Region.ready .any ops listed).contains k&&Region.free .any ops listed k&&headOk ops n0 f (k+1) (listed.setIfInBounds k true)
def headB (ops:Array Oper) (n0:Nat):Bool:=Region.noSelect ops&&Nat.blt n0 ops.size&&Region.sinkB .any ops n0&&Region.chainB .any ops n0&&headOk ops n0 n0 0 (Array.replicate ops.size false)
section
variable {P:Program} {f:FuncId} {n:Nat} {R:Ending→World→Prop} {k:List Item} {e:Env} {w w1:World} {ops:Array Oper} {n0:Nat}
def RT (P:Program) (f:FuncId) (n:Nat) (R:Ending→World→Prop) (k:List Item) (ops:Array Oper) (n0:Nat) (w1:World) (q:Nat) (e:Env):Prop:=
 ∀ a:Act,a.defers=[]→Fits e n a.tmps→wpStill P ops w1 (λa'=>wpAny P .any ops (QQ P f R k) (ops.size-n0) (hd0 ops n0) a' w1) ((ops.toList.take n0).drop q) a
theorem headL_lex {Lq:Act→Prop} (hsel:Region.noSelect ops=true) (hs:Region.sinkB .any ops n0=true) (hc:Region.chainB .any ops n0=true) (hn:n0<ops.size) :
 ∀ (l:List Oper) (k:Nat) (listed L0:Array Bool) (a:Act),(∀ j,j<l.length→l[j]?=ops[k+j]?)→k+l.length=n0→HeadInv .any ops n0 listed →
 headOk ops n0 l.length k listed=true→(List.range' k l.length).foldl (λl i=>l.setIfInBounds i true) listed=L0→wpStill P ops w1 Lq l a →
 wpAnyL P .any ops w1 n0 (λlisted' a'=>listed'=L0∧(∀ j∈Region.ready .any ops listed',n0≤j)∧Lq a') l.length listed a
 | [],k,listed,L0,a,_,hk,_,hB,hL,h=>by
  refine ⟨hL,?_,h⟩;intro j hj;have:=List.all_eq_true.1 hB j hj;simpa [Nat.ble_eq] using this
 | o::l,k,listed,L0,a,hl,hk,inv,hB,hL,h=>by
  have h0:ops[k]?=some o:=by simpa using (hl 0 (by simp)).symm
  simp only [List.length_cons,headOk,Bool.and_eq_true] at hB;obtain ⟨⟨hr,hf⟩,hB'⟩:=hB
  have hkn:k<n0:=by simp only [List.length_cons] at hk;omega
  have hr':k∈Region.ready .any ops listed:=by simpa using hr
  have hst:stOp P ops w1 k (wpStill P ops w1 Lq l) a:=by unfold stOp;simp only [h0];exact h
  obtain ⟨v,hy,hK⟩:=yieldsAt_of_stOp h0 hst;exact wpAnyL_first h0 (Region.noSelect_spec hsel) hs hc hn hkn (λlisted' a' hL=>hL.2.1) l.length listed a inv (Region.free_spec h0 hf) hr' hy
   (headL_lex hsel hs hc hn l (k+1) _ L0 _ (λj hj=>by have:=hl (j+1) (by simp;omega);simpa [Nat.add_assoc,Nat.add_comm 1 j] using this) (by simp only [List.length_cons] at hk;omega) (inv.set hr' hkn) hB' (by rw [← hL,List.length_cons,List.range'_succ];rfl) hK)
theorem Rn.drawT {id:Nat} {Z0 S':Nat→Prop} {w0:World} {L:List Rs} (n0:Nat) (hm':P.follows .mixedOrders=true) (hm:Hp Z0 S' w0 w L) (hB:headB ops n0=true)
 (h:∀ w1,Hp Z0 S' w0 w1 L→RT P f n R k ops n0 w1 0 e):Rn P f n R (.code (.region id ops true)::k) e w:=by
 intro b tm cs h1 h2 h3;simp only [headB,Bool.and_eq_true] at hB;obtain ⟨⟨⟨⟨hsel,hn⟩,hs⟩,hc⟩,hlex⟩:=hB
 have hn:n0<ops.size:=by simpa [Nat.blt_eq] using hn
 have h4:=h w.drew (hm.ext (Ext.drew w)) ⟨tm,[]⟩ rfl h3;rw [List.drop_zero] at h4
 have htl:(ops.toList.take n0).length=n0:=by simp;omega
 have inv0:HeadInv .any ops n0 (Array.replicate ops.size false):=
  ⟨by simp,λj oj _ hl=>(by rw [getD_replicate_false] at hl;cases hl),λt _ ht=>getD_in (by simpa using ht) (getD_replicate_false _ _)⟩
 have H:=headL_lex hsel hs hc hn (ops.toList.take n0) 0 (Array.replicate ops.size false) (hd0 ops n0) ⟨tm,[]⟩ (λj hj=>by
  have hj':j<n0:=by rw [htl] at hj;exact hj
  simp [hj']) (by simpa using htl) inv0 (by rw [htl];exact hlex) (by rw [htl,← List.range_eq_range'];rfl) h4
 have H2:=wpAny_of_head (Q':=QQ P f R k) (g:=ops.size-n0) (λlisted a' hL=>by rw [hL.1];exact hL.2.2) _ _ _ H;rw [htl,show n0+(ops.size-n0)=ops.size by omega] at H2;have h5:=wp_region_any (id:=id) hm' H2;obtain ⟨x,a',w',⟨rfl,hR⟩,harr⟩:=h5 b k cs;obtain ⟨x,w2,fr,hR2,hc,q⟩:=hR b cs h1 h2;exact ⟨x,w2,fr,hR2,Comes.of_steps harr hc,q⟩
theorem still_at {q:Nat} {o:Oper} (hq:Nat.blt q n0=true) (ho:ops[q]?=some o):(ops.toList.take n0).drop q=o::(ops.toList.take n0).drop (q+1):=by
 have hq:q<n0:=by simpa [Nat.blt_eq] using hq
 have hlt:q<ops.size:=by obtain ⟨h,_⟩:=Array.getElem?_eq_some_iff.1 ho;exact h
 have hl:q<(ops.toList.take n0).length:=by simp;omega
 rw [List.drop_eq_getElem_cons hl]
 congr 1
 have:(ops.toList.take n0)[q]=ops[q]:=by simp
 rw [this];exact (Array.getElem?_eq_some_iff.1 ho).2
theorem RT.v {o:Oper} {v:Value} {d:Nat} (q:Nat) (hq:Nat.blt q n0=true) (ho:ops[q]?=some o) (hg:gok e ops o.guard=true) (hd:o.dst=some d) (hn:Nat.blt d n=true) (hv:OpV P n e w1 o v w1)
 (h:RT P f n R k ops n0 w1 (q+1) ((d,v)::e)):RT P f n R k ops n0 w1 q e:=by
 intro a ha hf;rw [still_at hq ho]
 refine wpStill_step λK hK=>?_
 rw [if_pos (wanted_of_gok hf hg)];unfold Oper.still;rw [hv a hf,Oper.stillUpon_value,hd];exact hK _ (h _ (by rw [defers_put];exact ha) (fits_put hf hn v))
theorem RT.no {o:Oper} {d:Nat} (q:Nat) (hq:Nat.blt q n0=true) (ho:ops[q]?=some o) (hg:gno e ops o.guard=true) (hd:o.dst=some d) (hn:Nat.blt d n=true)
 (h:RT P f n R k ops n0 w1 (q+1) ((d,undef)::e)):RT P f n R k ops n0 w1 q e:=by
 intro a ha hf;rw [still_at hq ho]
 refine wpStill_step λK hK=>?_
 rw [if_neg (by rw [wanted_of_gno hf hg];simp),hd];exact hK _ (h _ (by rw [defers_put];exact ha) (fits_put hf hn undef))
theorem RT.tail (h:RH P f n R k ops (λ_=>True) (ops.size-n0) (hd0 ops n0) e w1):RT P f n R k ops n0 w1 n0 e:=by
 intro a ha hf;rw [List.drop_eq_nil_of_le (by simp;omega)];exact wpStill_nil (wpAny_of_held _ _ _ _ (h a ha hf trivial))
theorem RT.say {t:Nat} {u:Value} {q:Nat} (v:Value) (hl:lk e t=some u) (hv:u=v) (h:RT P f n R k ops n0 w1 q ((t,v)::e)):RT P f n R k ops n0 w1 q e:=by
 subst hv;intro a ha hf;exact h a ha (hf.sub (Sub.cons hl (Sub.refl e)))
theorem RT.part {t:Nat} {b:Bool} {q:Nat} (hl:lk e t=some (.bool b)) (ht:b=true→RT P f n R k ops n0 w1 q ((t,.bool true)::e)) (hf:b=false→RT P f n R k ops n0 w1 q ((t,.bool false)::e)):RT P f n R k ops n0 w1 q e:=by
 cases b
 ·exact RT.say _ hl rfl (hf rfl)
 ·exact RT.say _ hl rfl (ht rfl)
theorem RT.partD {t:Nat} {p:Prop} [Decidable p] {q:Nat} (hl:lk e t=some (.bool (decide p))) (ht:p→RT P f n R k ops n0 w1 q ((t,.bool true)::e)) (hf:¬p→RT P f n R k ops n0 w1 q ((t,.bool false)::e)):RT P f n R k ops n0 w1 q e:=
 RT.part hl (λh=>ht (of_decide_eq_true h)) (λh=>hf (of_decide_eq_false h))
def hdOps (ops:Array Oper) (n0:Nat):Array Oper:=(ops.toList.take n0).toArray
theorem hdOps_get {i:Nat} (hn:n0<ops.size) (h:i<n0):(hdOps ops n0)[i]?=ops[i]?:=by simp [hdOps,h]
theorem hdOps_size (hn:n0<ops.size):(hdOps ops n0).size=n0:=by simp [hdOps];omega
structure Far (ops:Array Oper) (n0:Nat) (l l':Array Bool):Prop where
 s1:l.size=ops.size
 s2:l'.size=n0
 same:∀ i,i<n0→l[i]?=l'[i]?
 tail:∀ t,n0≤t→t<ops.size→l[t]?=some false
 closed:∀ j oj,ops[j]?=some oj→l.getD j false=true→∀ ed∈oj.after,Region.binds .any ed=true→l.getD ed.on false=true
theorem Far.ready {l l':Array Bool} (hn:n0<ops.size) (hd:(List.range n0).all (λi=>match ops[i]? with | some o=>o.after.all λed=>!Region.binds .any ed||Nat.blt ed.on i | none=>false)=true) (F:Far ops n0 l l') {i:Nat} (hi:i<n0) :
 i∈Region.ready .any ops l↔i∈Region.ready .any (hdOps ops n0) l':=by
 have hdi:=List.all_eq_true.1 hd i (List.mem_range.2 hi)
 have hg:∀ (x:Nat) (b:Bool),x<n0→l.getD x b=l'.getD x b:=λx b hx=>by
  have:=F.same x hx;rw [Array.getD_eq_getD_getElem?,Array.getD_eq_getD_getElem?,this]
 constructor
 ·intro h
  obtain ⟨h1,o,ho,h2⟩:=mem_ready.1 h;refine mem_ready.2 ⟨by rw [← hg i _ hi];exact h1,o,by rw [hdOps_get hn hi];exact ho,λed hed hb=>?_⟩;rw [ho] at hdi;have:=Array.all_eq_true_iff_forall_mem.1 hdi ed hed;rw [hb] at this
  have hlt:ed.on<i:=by simpa [Nat.blt_eq] using this
  rw [← hg _ _ (by omega)];exact h2 ed hed hb
 ·intro h
  obtain ⟨h1,o,ho,h2⟩:=mem_ready.1 h;rw [hdOps_get hn hi] at ho;refine mem_ready.2 ⟨by rw [hg i _ hi];exact h1,o,ho,λed hed hb=>?_⟩;rw [ho] at hdi;have:=Array.all_eq_true_iff_forall_mem.1 hdi ed hed;rw [hb] at this
  have hlt:ed.on<i:=by simpa [Nat.blt_eq] using this
  rw [hg _ _ (by omega)];exact h2 ed hed hb
theorem Far.set {l l':Array Bool} (F:Far ops n0 l l') {i:Nat} (hi:i<n0) (hr:i∈Region.ready .any ops l):Far ops n0 (l.setIfInBounds i true) (l'.setIfInBounds i true):=by
 obtain ⟨_,oi,hoi,hall⟩:=mem_ready.1 hr;refine ⟨by simp [F.s1],by simp [F.s2],λj hj=>?_,λt h1 h2=>?_,λj oj hj hl ed he hb=>?_⟩
 ·have h:=F.same j hj
  by_cases hij:i=j
  ·subst hij
   have h1:=F.s1;have h2:=F.s2
   by_cases hlt:i<l.size
   ·rw [Array.getElem?_setIfInBounds_self_of_lt hlt,Array.getElem?_setIfInBounds_self_of_lt (by omega)]
   ·obtain ⟨hlt2,_⟩:=Array.getElem?_eq_some_iff.1 hoi;omega
  ·rw [Array.getElem?_setIfInBounds_ne hij,Array.getElem?_setIfInBounds_ne hij];exact h
 ·rw [Array.getElem?_setIfInBounds_ne (by omega)];exact F.tail t h1 h2
 ·by_cases hij:i=j
  ·subst hij
   have:oj=oi:=Option.some.inj (hj.symm.trans hoi);subst this;exact getD_set_true (hall ed he hb)
  ·rw [getD_set_ne false hij] at hl
   exact getD_set_true (F.closed j oj hj hl ed he hb)
theorem Far.inv {l l':Array Bool} (F:Far ops n0 l l'):HeadInv .any ops n0 l:=
 ⟨F.s1,F.closed,λt h1 h2=>by rw [Array.getD_eq_getD_getElem?,F.tail t h1 h2];rfl⟩
theorem Far.all {l l':Array Bool} (hn:n0<ops.size) (hd:(List.range n0).all (λi=>match ops[i]? with | some o=>o.after.all λed=>!Region.binds .any ed||Nat.blt ed.on i | none=>false)=true) (F:Far ops n0 l l') (h:Region.ready .any (hdOps ops n0) l'=[]):l=hd0 ops n0:=by
 have hl:∀ i,i<n0→l.getD i true=true:=by
  intro i
  induction i using Nat.strongRecOn with
  | _ i ih=>
   intro hi
   cases hv:l.getD i true with
   | true=>rfl
   | false=>
    exfalso
    have hdi:=List.all_eq_true.1 hd i (List.mem_range.2 hi)
    have hlt:i<ops.size:=by omega
    have ho:ops[i]?=some ops[i]:=Array.getElem?_eq_getElem hlt;rw [ho] at hdi
    have:i∈Region.ready .any ops l:=mem_ready.2 ⟨hv,_,ho,λed hed hb=>by
     have h1:=Array.all_eq_true_iff_forall_mem.1 hdi ed hed;rw [hb] at h1
     have hlt2:ed.on<i:=by simpa [Nat.blt_eq] using h1
     have h2:=ih ed.on hlt2 (by omega);rw [Array.getD_eq_getD_getElem?] at h2 ⊢
     have h3:ed.on<l.size:=by have:=F.s1;omega
     rw [Array.getElem?_eq_getElem h3] at h2 ⊢
     exact h2⟩
    rw [F.ready hn hd hi,h] at this
    cases this
 have hh:∀ (m:Nat) (l0:Array Bool),((List.range m).foldl (λl i=>l.setIfInBounds i true) l0).size=l0.size:=by
  intro m
  induction m with
  | zero=>intro l0;rfl
  | succ m ih=>intro l0;rw [List.range_succ,List.foldl_append];simp [ih]
 have hg:∀ (m:Nat) (l0:Array Bool) (j:Nat),j<l0.size→((List.range m).foldl (λl i=>l.setIfInBounds i true) l0)[j]?=if j<m then some true else l0[j]?:=by
  intro m
  induction m with
  | zero=>intro l0 j _;simp
  | succ m ih=>
   intro l0 j hj;rw [List.range_succ,List.foldl_append];show (((List.range m).foldl (λl i=>l.setIfInBounds i true) l0).setIfInBounds m true)[j]?=_
   by_cases hmj:m=j
   ·subst hmj
    rw [Array.getElem?_setIfInBounds_self_of_lt (by rw [hh];exact hj),if_pos (by omega)]
   ·rw [Array.getElem?_setIfInBounds_ne hmj,ih l0 j hj]
    by_cases h1:j<m
    ·rw [if_pos h1,if_pos (by omega)]
    ·rw [if_neg h1,if_neg (by omega)]
 apply Array.ext_getElem?
 intro j;unfold hd0
 by_cases hj:j<ops.size
 ·rw [hg n0 _ j (by simpa using hj)]
  by_cases h1:j<n0
  ·rw [if_pos h1]
   have h2:=hl j h1
   have h3:j<l.size:=by have:=F.s1;omega
   rw [Array.getD_eq_getD_getElem?,Array.getElem?_eq_getElem h3] at h2;rw [Array.getElem?_eq_getElem h3];exact congrArg some h2
  ·rw [if_neg h1,F.tail j (by omega) hj];simp [hj]
 ·rw [Array.getElem?_eq_none (by have:=F.s1;omega),Array.getElem?_eq_none (by rw [hh];simp;omega)]
theorem wpAny_more {Q:Exit→Act→World→Prop}:∀ (g:Nat) (l:Array Bool) (a:Act) (w:World),wpAny P .any ops Q g l a w→wpAny P .any ops Q (g+1) l a w
 | 0,l,a,w,h=>⟨λ_=>h.2,by rw [h.1];simp⟩
 | g+1,l,a,w,h=>⟨h.1,λi hi=>wpOp_mono (λa' w' h'=>wpAny_more g _ a' w' h') (h.2 i hi)⟩
theorem wpAny_add {Q:Exit→Act→World→Prop}:∀ (m g:Nat) (l:Array Bool) (a:Act) (w:World),wpAny P .any ops Q g l a w→wpAny P .any ops Q (m+g) l a w
 | 0,g,l,a,w,h=>by rw [Nat.zero_add];exact h
 | m+1,g,l,a,w,h=>by rw [show m+1+g=(m+g)+1 by omega];exact wpAny_more _ _ _ _ (wpAny_add m g l a w h)
theorem wpOp_head {ops':Array Oper} {Q:Exit→Act→World→Prop} {K:Act→World→Prop} {X Y:Act→World→Prop} {i:Nat} {a:Act} {w:World} (hi:ops'[i]?=ops[i]?) (hw:∀ o,ops[i]?=some o→Region.wanted o (yielded ops' a.tmps)=Region.wanted o (yielded ops a.tmps))
 (hk:∀ a w,X a w→Y a w) (h:wpOp P ops' (QK K) i X a w):wpOp P ops Q i Y a w:=by
 unfold wpOp at h ⊢;rw [hi] at h
 split
 ·rename_i hn;simp only [hn] at h;exact hk _ _ h
 ·rename_i o ho
  simp only [ho] at h;rw [hw o ho] at h
  split
  ·rename_i hwd
   simp only [hwd,if_true] at h
   rcases h with h|⟨_,a,w,h,_⟩
   ·refine .inl ?_
    unfold Oper.wp at *;generalize (execOp a.eval o).run P w=r at *
    cases r with
    | ok n w'=>
     cases n<;>simp only [Oper.upon] at h ⊢
     case value u=>exact hk _ _ h
     case skip=>exact hk _ _ h
     case defer d=>exact hk _ _ h
     case enter f args=>
      refine Calls.mono h λe w'' he=>?_
      cases e with
      | returned u=>exact hk _ _ he
      | panicked c=>cases he.1
      | outgrown=>obtain ⟨_,_,h,_⟩:=he;cases h
     case row row args=>exact Rows.mono h λu w'' he=>hk _ _ he
    | halt x w'=>
     cases x<;>simp only [Oper.upon] at h ⊢
     case panic u=>cases h.1
   ·cases h
  ·rename_i hwd
   simp only [hwd] at h;exact hk _ _ h
def KT (P:Program) (f:FuncId) (R:Ending→World→Prop) (k:List Item) (ops:Array Oper) (n0:Nat):Act→World→Prop:=λa w=>wpAny P .any ops (QQ P f R k) (ops.size-n0) (hd0 ops n0) a w
theorem RG.tailK {S:World→Prop} {fuel:Nat} {listed:Array Bool} (hr:Region.ready .any (hdOps ops n0) listed=[]) (h:RH P f n R k ops (λ_=>True) (ops.size-n0) (hd0 ops n0) e w):RG P n (KT P f R k ops n0) (hdOps ops n0) S fuel listed e w:=by
 intro a ha hf hS;exact wpAnyH_done hr ⟨rfl,wpAny_of_held _ _ _ _ (h a ha hf trivial)⟩ fuel
end
end Go.Wk
set_option linter.unusedVariables false
set_option linter.unusedSimpArgs false
namespace Go.Wk
open Go Go.RowKit
section
variable {P:Program} {n:Nat} {e:Env} {w:World} {dst:Option Nat} {ty:TypeId} {pos:String} {af:Array Edge} {g:Option (Nat×Bool)}
def shl8 (a:UInt8) (n:Nat):UInt8:=if n<8 then a<<<UInt8.ofNat n else 0
theorem V.shl8 {q:IntKind} {x y:Operand} {a:UInt8} {m:Nat} {t u:TypeId} (hx:ev e x=some (.int .u8 a.toNat)) (hy:ev e y=some (.int q (m:Nat))):OpV P n e w ⟨dst,.binOp .shl t x y u,ty,pos,af,g⟩ (.int .u8 ((shl8 a m).toNat:Nat)) w:=by
 refine V.op2 hx hy ?_;rw [binOp_shl]
 have h:¬((m:Int)<0):=by omega
 simp only [Op.shift,h,if_false,IntKind.bits]
 congr 2
 unfold Go.Wk.shl8
 by_cases hm:m<8
 ·rw [if_pos hm,UInt8.toNat_shiftLeft]
  have h2:(UInt8.ofNat m).toNat%8=m:=by rw [UInt8.toNat_ofNat'];omega
  have h3:min (m:Int).toNat 8=m:=by omega
  rw [h2,h3,Nat.shiftLeft_eq];simp [IntKind.wrap,IntKind.signed,IntKind.bits]
 ·rw [if_neg hm]
  have h3:min (m:Int).toNat 8=8:=by omega
  rw [h3];simp [IntKind.wrap,IntKind.signed,IntKind.bits]
def quo8 (a b:UInt8):Option UInt8:=if b=0 then none else some (a/b)
def rem8 (a b:UInt8):Option UInt8:=if b=0 then none else some (a%b)
theorem V.rem8 {x y:Operand} {a b c:UInt8} {t u:TypeId} (hx:ev e x=some (.int .u8 a.toNat)) (hy:ev e y=some (.int .u8 b.toNat)) (h:rem8 a b=some c):OpV P n e w ⟨dst,.binOp .rem t x y u,ty,pos,af,g⟩ (.int .u8 (c.toNat:Nat)) w:=λq hf=>by
 unfold Go.Wk.rem8 at h
 split at h
 ·cases h
 ·rename_i hb
  cases h
  have hb':b.toNat≠0:=λhh=>hb (UInt8.toNat_inj.1 hh)
  have hb2:(b.toNat:Int)≠0:=by omega
  have hb3:((b.toNat:Int)==0)=false:=by simpa using hb2
  have h1:(a.toNat:Int).tmod b.toNat=((a%b).toNat:Int):=by rw [← Int.ofNat_tmod,UInt8.toNat_mod]
  simp only [execOp,ev_eval hf hx,ev_eval hf hy,eqGuard_rem,binOp_rem,Op.intDiv,hb3,h1];simp [hb']
theorem V.quo8 {x y:Operand} {a b c:UInt8} {t u:TypeId} (hx:ev e x=some (.int .u8 a.toNat)) (hy:ev e y=some (.int .u8 b.toNat)) (h:quo8 a b=some c):OpV P n e w ⟨dst,.binOp .quo t x y u,ty,pos,af,g⟩ (.int .u8 (c.toNat:Nat)) w:=λq hf=>by
 unfold Go.Wk.quo8 at h
 split at h
 ·cases h
 ·rename_i hb
  cases h
  have hb':b.toNat≠0:=λhh=>hb (UInt8.toNat_inj.1 hh)
  have hb2:(b.toNat:Int)≠0:=by omega
  have hb3:((b.toNat:Int)==0)=false:=by simpa using hb2
  have h1:IntKind.u8.wrap ((a.toNat:Int).tdiv b.toNat)=((a/b).toNat:Int):=by
   rw [← Int.ofNat_tdiv,UInt8.toNat_div];have:=Nat.div_le_self a.toNat b.toNat;have:=a.toNat_lt;have h5:0≤(a.toNat:Int)/(b.toNat:Int):=Int.ediv_nonneg (by omega) (by omega);simp [IntKind.wrap,IntKind.signed,IntKind.bits]
   omega
  simp only [execOp,ev_eval hf hx,ev_eval hf hy,eqGuard_quo,binOp_quo,Op.intDiv,hb3,h1];simp [hb']
theorem V.or8 {x y:Operand} {a b:UInt8} {t u:TypeId} (hx:ev e x=some (.int .u8 a.toNat)) (hy:ev e y=some (.int .u8 b.toNat)):OpV P n e w ⟨dst,.binOp .or t x y u,ty,pos,af,g⟩ (.int .u8 ((a|||b).toNat:Nat)) w:=by
 refine V.op2 hx hy ?_;rw [binOp_or,intBits_or];congr 2
 have h1:BitVec.ofInt 8 (a.toNat:Int)=a.toBitVec:=by apply BitVec.eq_of_toNat_eq;simp
 have h2:BitVec.ofInt 8 (b.toNat:Int)=b.toBitVec:=by apply BitVec.eq_of_toNat_eq;simp
 show IntKind.u8.wrap ((BitVec.ofInt 8 (a.toNat:Int)|||BitVec.ofInt 8 (b.toNat:Int)).toNat:Int)=_;rw [h1,h2];have:=(a.toBitVec|||b.toBitVec).isLt;simp only [IntKind.wrap,IntKind.signed,IntKind.bits,Bool.false_and,Bool.false_eq_true,if_false]
 have h3:((a.toBitVec|||b.toBitVec).toNat:Int)%2^8=((a.toBitVec|||b.toBitVec).toNat:Int):=by omega
 rw [h3];simp
def shl64 (a:UInt64) (n:Nat):UInt64:=if n<64 then a<<<UInt64.ofNat n else 0
def shr64 (a:UInt64) (n:Nat):UInt64:=if n<64 then a>>>UInt64.ofNat n else 0
theorem V.shl64 {q:IntKind} {x y:Operand} {a:UInt64} {m:Nat} {t u:TypeId} (hx:ev e x=some (.int .u64 a.toNat)) (hy:ev e y=some (.int q (m:Nat))):OpV P n e w ⟨dst,.binOp .shl t x y u,ty,pos,af,g⟩ (.int .u64 ((shl64 a m).toNat:Nat)) w:=by
 refine V.op2 hx hy ?_;rw [binOp_shl]
 have h:¬((m:Int)<0):=by omega
 simp only [Op.shift,h,if_false,IntKind.bits]
 congr 2
 unfold Go.Wk.shl64
 by_cases hm:m<64
 ·rw [if_pos hm,UInt64.toNat_shiftLeft]
  have h2:(UInt64.ofNat m).toNat%64=m:=by rw [UInt64.toNat_ofNat'];omega
  have h3:min (m:Int).toNat 64=m:=by omega
  rw [h2,h3,Nat.shiftLeft_eq];simp [IntKind.wrap,IntKind.signed,IntKind.bits]
 ·rw [if_neg hm]
  have h3:min (m:Int).toNat 64=64:=by omega
  rw [h3];simp [IntKind.wrap,IntKind.signed,IntKind.bits]
theorem V.shr64 {q:IntKind} {x y:Operand} {a:UInt64} {m:Nat} {t u:TypeId} (hx:ev e x=some (.int .u64 a.toNat)) (hy:ev e y=some (.int q (m:Nat))):OpV P n e w ⟨dst,.binOp .shr t x y u,ty,pos,af,g⟩ (.int .u64 ((shr64 a m).toNat:Nat)) w:=by
 refine V.op2 hx hy ?_;rw [binOp_shr]
 have h:¬((m:Int)<0):=by omega
 simp only [Op.shift,h,if_false,IntKind.bits]
 congr 2
 unfold Go.Wk.shr64
 by_cases hm:m<64
 ·rw [if_pos hm,UInt64.toNat_shiftRight]
  have h2:(UInt64.ofNat m).toNat%64=m:=by rw [UInt64.toNat_ofNat'];omega
  have h3:min (m:Int).toNat 64=m:=by omega
  rw [h2,h3,Nat.shiftRight_eq_div_pow,Int.fdiv_eq_ediv_of_nonneg _ (by exact Int.pow_nonneg (by decide))];simp
 ·rw [if_neg hm]
  have h3:min (m:Int).toNat 64=64:=by omega
  have:=a.toNat_lt;rw [h3,Int.fdiv_eq_ediv_of_nonneg _ (by decide),Int.ediv_eq_zero_of_lt (by omega) (by omega)]
  rfl
def quo64 (a b:UInt64):Option UInt64:=if b=0 then none else some (a/b)
def rem64 (a b:UInt64):Option UInt64:=if b=0 then none else some (a%b)
theorem V.rem64 {x y:Operand} {a b c:UInt64} {t u:TypeId} (hx:ev e x=some (.int .u64 a.toNat)) (hy:ev e y=some (.int .u64 b.toNat)) (h:rem64 a b=some c):OpV P n e w ⟨dst,.binOp .rem t x y u,ty,pos,af,g⟩ (.int .u64 (c.toNat:Nat)) w:=λq hf=>by
 unfold Go.Wk.rem64 at h
 split at h
 ·cases h
 ·rename_i hb
  cases h
  have hb':b.toNat≠0:=λhh=>hb (UInt64.toNat_inj.1 hh)
  have hb2:(b.toNat:Int)≠0:=by omega
  have hb3:((b.toNat:Int)==0)=false:=by simpa using hb2
  have h1:(a.toNat:Int).tmod b.toNat=((a%b).toNat:Int):=by rw [← Int.ofNat_tmod,UInt64.toNat_mod]
  simp only [execOp,ev_eval hf hx,ev_eval hf hy,eqGuard_rem,binOp_rem,Op.intDiv,hb3,h1];simp [hb']
theorem V.quo64 {x y:Operand} {a b c:UInt64} {t u:TypeId} (hx:ev e x=some (.int .u64 a.toNat)) (hy:ev e y=some (.int .u64 b.toNat)) (h:quo64 a b=some c):OpV P n e w ⟨dst,.binOp .quo t x y u,ty,pos,af,g⟩ (.int .u64 (c.toNat:Nat)) w:=λq hf=>by
 unfold Go.Wk.quo64 at h
 split at h
 ·cases h
 ·rename_i hb
  cases h
  have hb':b.toNat≠0:=λhh=>hb (UInt64.toNat_inj.1 hh)
  have hb2:(b.toNat:Int)≠0:=by omega
  have hb3:((b.toNat:Int)==0)=false:=by simpa using hb2
  have h1:IntKind.u64.wrap ((a.toNat:Int).tdiv b.toNat)=((a/b).toNat:Int):=by
   rw [← Int.ofNat_tdiv,UInt64.toNat_div];have:=Nat.div_le_self a.toNat b.toNat;have:=a.toNat_lt;have h5:0≤(a.toNat:Int)/(b.toNat:Int):=Int.ediv_nonneg (by omega) (by omega);simp [IntKind.wrap,IntKind.signed,IntKind.bits]
   omega
  simp only [execOp,ev_eval hf hx,ev_eval hf hy,eqGuard_quo,binOp_quo,Op.intDiv,hb3,h1];simp [hb']
theorem V.com64 {x:Operand} {a:UInt64} {t:TypeId} (hx:ev e x=some (.int .u64 a.toNat)):OpV P n e w ⟨dst,.unOp .xor t x,ty,pos,af,g⟩ (.int .u64 ((~~~ a).toNat:Nat)) w:=λq hf=>by
 have h1:BitVec.ofInt 64 (a.toNat:Int)=a.toBitVec:=by apply BitVec.eq_of_toNat_eq;simp
 have h0:BitVec.ofInt 64 (IntKind.u64.max)=BitVec.allOnes 64:=by decide
 have h2:(Op.intBits .xor .u64 (IntKind.u64.max) (a.toNat:Int))=pure (.int .u64 ((~~~ a).toNat:Int)):=by
  rw [intBits_xor];congr 2;show IntKind.u64.wrap ((BitVec.ofInt 64 (IntKind.u64.max)^^^BitVec.ofInt 64 (a.toNat:Int)).toNat:Int)=_;rw [h1,h0]
  have h4:BitVec.allOnes 64^^^a.toBitVec = ~~~ a.toBitVec:=by rw [BitVec.not_def]
  rw [h4];have:=(~~~ a.toBitVec).isLt;simp only [IntKind.wrap,IntKind.signed,IntKind.bits,Bool.false_and,Bool.false_eq_true,if_false]
  have h3:((~~~ a.toBitVec).toNat:Int)%2^64=((~~~ a.toBitVec).toNat:Int):=by omega
  rw [h3]
  rfl
 simp [execOp,ev_eval hf hx,Op.unary,IntKind.signed,h2]
end
end Go.Wk
set_option linter.unusedVariables false
set_option linter.unusedSimpArgs false
namespace Go.Wk
open Go Go.RowKit
variable {K:Act→World→Prop}
section
variable {P:Program} {f:FuncId} {n:Nat} {R:Ending→World→Prop} {k:List Item} {e:Env} {w w1:World} {ops:Array Oper} {n0:Nat} {Z0 S':Nat→Prop} {w0:World} {L:List Rs} {α:Type} {rep:Rep α}
variable {d:Nat} {ty:TypeId} {pos:String} {af:Array Edge} {g:Option (Nat×Bool)} {fuel:Nat} {listed:Array Bool} {S:World→Prop}
theorem cutOp {t el:TypeId} {x:Operand} {lo hi:Option Operand} {A:Option Addr} {c m:Nat} {p q:Int} {xs zs:List α} {s:Nat} {dst:Option Nat} (hm:Hp Z0 S' w0 w L) (m':Nat) (hi':L[m']?=some (slR A c rep xs)) (hz:cutL xs p q=some zs)
 (ht:P.underlying t=some (.slice el)) (hs:∀ w,(sizeOf el).run P w=.ok s w) (hsz:rep.sz=s) (hx:ev e x=some (.slice A m c)) (hmm:xs.length=m) (hlo:lo? e lo p) (hhi:hi? e hi q m) :
 ∃ A' c',Hp Z0 S' w0 w (L++[slR A' c' rep zs])∧∀ w',OpV P n e w' ⟨dst,.slice t x lo hi none,ty,pos,af,g⟩ (.slice A' zs.length c') w':=by
 obtain ⟨p',q',rfl,rfl,h1,h2,rfl⟩:=cutE hz;obtain ⟨g1,g2,g3⟩:=hm.get m' hi';subst hmm;have hcut:=g3.cut (c:=c) p' q' (by omega) (by omega)
 have hl:((xs.take q').drop p').length=q'-p':=by rw [List.length_drop,List.length_take];omega
 refine ⟨_,c-p',hm.knowSl (by omega) (by omega) hcut,λw'=>?_⟩;rw [hl];subst hsz;refine V.cutV p' q' ht hs hx ?_ ?_ h1 (by omega)
 ·cases lo with
  | none=>have hh:(p':Int)=0:=hlo;exact Int.ofNat.inj hh
  | some y=>exact ⟨_,hlo,rfl⟩
 ·cases hi with
  | none=>have hh:(q':Int)=_:=hhi;exact Int.ofNat.inj hh
  | some y=>exact ⟨_,hhi,rfl⟩
theorem RH.cutH {t el:TypeId} {x:Operand} {lo hi:Option Operand} {A:Option Addr} {c m:Nat} {p q:Int} {xs zs:List α} {s:Nat} (i:Nat) (hk:okTake ops listed i=true) (hm:Hp Z0 S' w0 w L) (m':Nat) (hi':L[m']?=some (slR A c rep xs)) (hz:cutL xs p q=some zs) (ho:ops[i]?=some ⟨some d,.slice t x lo hi none,ty,pos,af,g⟩) (hg:gok e ops g=true) (hn:Nat.blt d n=true)
 (ht:P.underlying t=some (.slice el)) (hs:∀ w,(sizeOf el).run P w=.ok s w) (hsz:rep.sz=s) (hx:ev e x=some (.slice A m c)) (hmm:xs.length=m) (hlo:lo? e lo p) (hhi:hi? e hi q m)
 (h:∀ A' c',Hp Z0 S' w0 w (L++[slR A' c' rep zs])→RG P n K ops S fuel (listed.setIfInBounds i true) ((d,.slice A' zs.length c')::e) w):RG P n K ops S (fuel+1) listed e w:=by
 obtain ⟨A',c',h1,h2⟩:=cutOp (n:=n) (dst:=some d) (ty:=ty) (pos:=pos) (af:=af) (g:=g) hm m' hi' hz ht hs hsz hx hmm hlo hhi;exact RH.take i hk ho hg rfl hn (λw' _=>h2 w') (h A' c' h1)
theorem RH.appH {by_:Nat} {t el:TypeId} {x y:Operand} {A A':Option Addr} {c c' l':Nat} {xs ys zs:List α} (i:Nat) (hr:Region.ready .any ops listed=[i])
 (hm:Hp Z0 S' w0 w L) (m:Nat) (hi:L[m]?=some (ownR el A c rep xs)) (hzs:appL xs ys=some zs)
 (ho:ops[i]?=some ⟨some d,.call { callee:=.builtin .append,args:=#[x,y],argTypes:=#[t,t] },ty,pos,af,g⟩) (hg:gok e ops g=true) (hn:Nat.blt d n=true)
 (ht:P.underlying t=some (.slice el)) (hel:ElOk P el rep.sz by_) (hby:Nat.ble by_ 131072=true) (hx:ev e x=some (.slice A xs.length c)) (hy:ev e y=some (.slice A' l' c')) (hl:ys.length=l')
 (hS:Src (Zo Z0 S' w0 L) w A' rep ys)
 (h:∀ A2 c2 w',Hp Z0 S' w0 w' (L.set m (ownR el A2 c2 rep zs))→S w'∧RG P n K ops S fuel (listed.setIfInBounds i true) ((d,.slice A2 zs.length c2)::e) w'):RG P n K ops S (fuel+1) listed e w:=by
 obtain ⟨hle,rfl⟩:=appE hzs;subst hl;have h0:=hm.get m hi;have hO:Own 0 (λb=>Zo Z0 S' w0 L b∧b<w.heap.size) w el A c rep xs:=Own.bd h0;obtain ⟨A2,c2,w',hr',hF,hob,hown⟩:=app_run (P:=P) (c':=c') ht hel hO hS.bd rfl (Nat.zero_le _) (by omega) (mul_by hle hby) ty;have hO2:=hown (λb hb hob=>hb.1.2 m _ hi hob) (λb hb hob=>hb.1.2 m _ hi hob);obtain ⟨h6,h7⟩:=h A2 c2 w' (hm.upd m _ hi hF (λx hx=>(hob x hx).imp id λhh=>by omega) λZ' h1 _=>hO2.mono λb hb=>by rcases hb with hb|hb<;>exact h1 b hb.1 hb.2);rw [List.length_append] at h7;exact RH.one i hr (v:=.slice A2 (xs.length+ys.length) c2) (w':=w') ho hg rfl hn (λa hf=>by simp [execOp,resolve,invoke,builtin,ev_eval hf hx,ev_eval hf hy,hr']) h6 h7
theorem RH.bslS {t el:TypeId} {s by_:Nat} {ps:List (Nat×Operand)} {m:Nat} {us cs:List Value} (i:Nat) (hr:Region.ready .any ops listed=[i]) (ho:ops[i]?=some ⟨some d,.buildSlice t m ps.toArray,ty,pos,af,g⟩) (hg:gok e ops g=true) (hn:Nat.blt d n=true)
 (ht:P.underlying t=some (.slice el)) (hel:ElOk P el s by_) (hps:ps.map (·.1)=List.range m) (hx:evs e (ps.map (·.2))=some us) (hl:us.length=m) (hcs:us.flatMap (λu=>u.cells.toList)=cs) (hu:∀ u∈us,u.cells.size=s) (hbig:m*s≤16777216)
 (h:∀ b w',b=w.heap.size→Blk w' b el cs→Ext w w'→S w'∧RG P n K ops S fuel (listed.setIfInBounds i true) ((d,.slice (some ⟨b,0,none⟩) m m)::e) w'):RG P n K ops S (fuel+1) listed e w:=by
 obtain ⟨h6,h7⟩:=h w.heap.size (w.alloc (.cells cs.toArray el)) rfl (Blk.new w el cs) (Ext.alloc w _);refine RH.one i hr ho hg rfl hn (V.bsl (by simpa using hx) (λw=>?_)) h6 h7;rw [List.toList_toArray,hps,← hcs];exact run_buildSlice ht hel hl hu hbig w
end
end Go.Wk
namespace Go.Wk
open Go Go.RowKit
def normL:Code→List Item→List Item
 | .seq a b,k=>normL a (.code b::k)
 | .skip,k=>k
 | c,k=>.code c::k
def labelAt (l:Nat) (k:List Item):Option (List Item):=match gotoIn l k with
 | some (.code c::k1)=>some (normL c k1)
 | _=>none
theorem Rn.loopL {P:Program} {f:FuncId} {n:Nat} {R:Ending→World→Prop} {k k':List Item} {e:Env} {w:World} {G R':Type} {r:R'} (l:Nat) (hk:labelAt l k=some k') (E:G→Env) (I:G→World→Prop) (M:Nat→G→Option R') (N:Nat) (h0:∀ g,M 0 g=none)
 (body:∀ m g w,I g w→M (m+1) g=some r→(∀ g' w' e',Sub (E g') e'→I g' w'→M m g'=some r→Rn P f n R k' e' w')→Rn P f n R k' (E g) w)
 (h:(∀ g w' e',Sub (E g) e'→I g w'→M N g=some r→Rn P f n R k' e' w')→Rn P f n R k e w):Rn P f n R k e w:=by
 have key:∀ m g w,I g w→M m g=some r→Rn P f n R k' (E g) w:=by
  intro m
  induction m with
  | zero=>intro g w _ h;rw [h0] at h;cases h
  | succ m ih=>
   intro g w hI hM
   exact body m g w hI hM λg' w' e' hs hI' hM'=>(ih g' w' hI' hM').weaken hs
 exact h λg w' _ hs hI hM=>(key N g w' hI hM).weaken hs
end Go.Wk
namespace Go.Wk
open Go Go.RowKit
section
variable {α:Type} {rep:Rep α} {Z0 S:Nat→Prop} {w0 w w':World} {L:List Rs}
theorem Hp.addLitZ {et:TypeId} {b:Nat} {cs:List Value} {xs:List α} {vss:List (List Value)} (hm:Hp Z0 S w0 w L) (hb:b=w.heap.size) (hE:Ext w w') (hB:Blk w' b et cs) (hfl:vss.flatten=cs) (hl:vss.length=xs.length) (hm':Nat.ble xs.length maxLen=true)
 (hrel:∀ (k:Nat) (vs:List Value) (x:α),vss[k]?=some vs→xs[k]?=some x→rep.rel (Zo Z0 S w0 L) w vs x):Hp Z0 S w0 w' (L++[ownR et (some ⟨b,0,none⟩) xs.length rep xs]):=
 hm.add _ hE (λx hx=>by have hxb:b=x:=(by simpa [ownR,ob] using hx);omega) λZ hZ=>by
  have hlen:∀ vs∈vss,vs.length=rep.sz:=lens_of hl hrel;have hf:=length_flat rep.sz vss hlen;refine ⟨Nat.le_refl _,Nat.le_of_ble_eq_true hm',.inr ⟨b,cs,vss,rfl,Nat.zero_le _,hB,?_,hl,λk vs x h1 h2=>rep.mono (rep.keep (rep.bd (hrel k vs x h1 h2)) λb hb _=>hE.keep b hb.2 (λh=>h)) λb hb=>hZ b hb.1 hb.2,?_⟩⟩
  ·rw [← hfl,hf,hl];exact Nat.le_refl _
  ·rw [← hfl,← hl,← hf,List.take_length]
theorem relz0 {Z:Nat→Prop}:∀ (k:Nat) (vs:List Value) (x:α),([]:List (List Value))[k]?=some vs→([]:List α)[k]?=some x→rep.rel Z w vs x:=λk _ _ h=>by simp at h
theorem relz_cons {Z:Nat→Prop} {v:List Value} {x:α} {vss:List (List Value)} {xs:List α} (h:rep.rel Z w v x) (hr:∀ (k:Nat) (vs:List Value) (x:α),vss[k]?=some vs→xs[k]?=some x→rep.rel Z w vs x) :
 ∀ (k:Nat) (vs:List Value) (y:α),(v::vss)[k]?=some vs→(x::xs)[k]?=some y→rep.rel Z w vs y
 | 0,vs,y,h1,h2=>by cases h1;cases h2;exact h
 | k+1,vs,y,h1,h2=>hr k vs y h1 h2
end
end Go.Wk
set_option linter.unusedVariables false
set_option linter.unusedSimpArgs false
namespace Go.Wk
open Go Go.RowKit
section
variable {α:Type}
def v1 (vs:List Value):Value:=match vs with | [v]=>v | _=>undef
abbrev Kv (α:Type):=List (List UInt8×α)
def lookP (key:List UInt8) (l:Kv α):Option α:=(l.find? λp=>decide (p.1=key)).map (·.2)
def putP (key:List UInt8) (x:α):Kv α→Kv α
 | []=>[(key,x)]
 | p::r=>if p.1=key then (key,x)::r else p::putP key x r
def MsRep (tv:List Value→Value) (rep:Rep α) (Z:Nat→Prop) (w:World):Ms→Kv α→Prop
 | [],[]=>True
 | m::ms,p::ps=>m.1=p.1∧(∃ vs,m.2.1=tv vs∧rep.rel Z w vs p.2)∧MsRep tv rep Z w ms ps
 | _,_=>False
variable {tv:List Value→Value} {rep:Rep α} {Z Z':Nat→Prop} {w w':World}
theorem MsRep.imp (h:∀ vs x,rep.rel Z w vs x→rep.rel Z' w' vs x):∀ {ms:Ms} {ps:Kv α},MsRep tv rep Z w ms ps→MsRep tv rep Z' w' ms ps
 | [],[],_=>trivial
 | _::_,_::_,⟨h1,⟨vs,h2,h3⟩,h4⟩=>⟨h1,⟨vs,h2,h _ _ h3⟩,MsRep.imp h h4⟩
 | _::_,[],h0 | [],_::_,h0=>h0.elim
theorem MsRep.names:∀ {ms:Ms} {ps:Kv α},MsRep tv rep Z w ms ps→ms.map (·.1)=ps.map (·.1)
 | [],[],_=>rfl
 | _::_,_::_,⟨h1,_,h4⟩=>by simp [h1,h4.names]
 | _::_,[],h0 | [],_::_,h0=>h0.elim
theorem MsRep.length {ms:Ms} {ps:Kv α} (h:MsRep tv rep Z w ms ps):ms.length=ps.length:=by simpa using congrArg List.length h.names
theorem MsRep.look (key:List UInt8):∀ {ms:Ms} {ps:Kv α},MsRep tv rep Z w ms ps→(lookM ms key=none∧lookP key ps=none)∨∃ vs x,lookM ms key=some (tv vs)∧lookP key ps=some x∧rep.rel Z w vs x
 | [],[],_=>.inl ⟨rfl,rfl⟩
 | m::ms,p::ps,⟨h1,⟨vs,h2,h3⟩,h4⟩=>by
  by_cases hk:p.1=key
  ·have hk':m.1=key:=h1.trans hk
   exact .inr ⟨vs,p.2,by simp [lookM,hk',h2],by simp [lookP,hk],h3⟩
  ·have hk':m.1≠key:=λh=>hk (h1.symm.trans h)
   have e1:lookM (m::ms) key=lookM ms key:=by simp [lookM,hk']
   have e2:lookP key (p::ps)=lookP key ps:=by simp [lookP,hk]
   rw [e1,e2];exact h4.look key
 | _::_,[],h0 | [],_::_,h0=>h0.elim
theorem MsRep.put (key:List UInt8) (c:Nat) {vs:List Value} {x:α} (hx:rep.rel Z w vs x):∀ {ms:Ms} {ps:Kv α},MsRep tv rep Z w ms ps→MsRep tv rep Z w (putM key (tv vs) c ms) (putP key x ps)
 | [],[],_=>⟨rfl,⟨vs,rfl,hx⟩,trivial⟩
 | m::ms,p::ps,⟨h1,h2,h4⟩=>by
  by_cases hk:p.1=key
  ·have hk':m.1=key:=h1.trans hk
   simp only [putM,putP,if_pos hk,if_pos hk'];exact ⟨rfl,⟨vs,rfl,hx⟩,h4⟩
  ·have hk':m.1≠key:=λh=>hk (h1.symm.trans h)
   simp only [putM,putP,if_neg hk,if_neg hk'];exact ⟨h1,h2,h4.put key c hx⟩
 | _::_,[],h0 | [],_::_,h0=>h0.elim
theorem putM_keys (key:List UInt8) (v:Value) (c:Nat):∀ (ms:Ms),(∀ k∈(putM key v c ms).map (·.1),k=key∨k∈ms.map (·.1))∧((ms.map (·.1)).Nodup→((putM key v c ms).map (·.1)).Nodup)
 | []=>by simp [putM]
 | p::r=>by
  by_cases hk:p.1=key
  ·simp only [putM,if_pos hk,List.map_cons]
   refine ⟨λk h=>?_,λh=>?_⟩
   ·rcases List.mem_cons.1 h with h | h
    ·exact .inl h
    ·exact .inr (List.mem_cons_of_mem _ h)
   ·rw [List.nodup_cons] at h ⊢;rw [hk] at h;exact h
  ·simp only [putM,if_neg hk,List.map_cons]
   obtain ⟨h1,h2⟩:=putM_keys key v c r;refine ⟨λk h=>?_,λh=>?_⟩
   ·rcases List.mem_cons.1 h with h | h
    ·exact .inr (by rw [h];exact List.mem_cons_self)
    ·exact (h1 k h).imp id λh=>List.mem_cons_of_mem _ h
   ·rw [List.nodup_cons] at h ⊢
    exact ⟨λhm=>(h1 _ hm).elim hk h.1,h2 h.2⟩
theorem putM_stamps (key:List UInt8) (v:Value) (c:Nat):∀ (ms:Ms),(∀ p∈ms,p.2.2<c)→(ms.map (·.2.2)).Nodup →
 (((lookM ms key).isSome=true→(putM key v c ms).map (·.2.2)=ms.map (·.2.2))∧((lookM ms key).isSome=false→(putM key v c ms).map (·.2.2)=ms.map (·.2.2)++[c]))
 | [],_,_=>by simp [putM,lookM]
 | p::r,hb,hn=>by
  by_cases hk:p.1=key
  ·simp [putM,lookM,hk]
  ·have e1:lookM (p::r) key=lookM r key:=by simp [lookM,hk]
   rw [List.map_cons,List.nodup_cons] at hn;obtain ⟨h1,h2⟩:=putM_stamps key v c r (λq hq=>hb q (by simp [hq])) hn.2;simp only [putM,if_neg hk,List.map_cons,e1];exact ⟨λh=>by rw [h1 h],λh=>by rw [h2 h];rfl⟩
structure MpA (tv:List Value→Value) (rep:Rep α) (Z:Nat→Prop) (w:World) (b:Nat) (ms:Ms) (c:Nat) (ps:Kv α):Prop where
 mp:Mp w b ms c
 rp:MsRep tv rep Z w ms ps
 born:∀ p∈ms,p.2.2<c
 bnd:(ms.map (·.2.2)).Nodup
 keys:(ms.map (·.1)).Nodup
theorem MpA.put {b c:Nat} {ms:Ms} {ps:Kv α} (h:MpA tv rep Z w b ms c ps) (key:List UInt8) {vs:List Value} {x:α} {c':Nat} (hx:rep.rel Z' w' vs x) (hk:∀ vs x,rep.rel Z w vs x→rep.rel Z' w' vs x)
 (hM:Mp w' b (putM key (tv vs) c ms) c') (hc:c'=if (lookM ms key).isSome then c else c+1):MpA tv rep Z' w' b (putM key (tv vs) c ms) c' (putP key x ps):=by
 obtain ⟨h1,h2⟩:=putM_stamps key (tv vs) c ms h.born h.bnd
 have hm:∀ p∈putM key (tv vs) c ms,p.2.2∈(putM key (tv vs) c ms).map (·.2.2):=λp hp=>List.mem_map_of_mem hp
 have hb:∀ x∈ms.map (·.2.2),x<c:=λx hx=>by obtain ⟨p,hp,rfl⟩:=List.mem_map.1 hx;exact h.born p hp
 refine ⟨hM,(h.rp.imp hk).put key c hx,λp hp=>?_,?_,(putM_keys key _ c ms).2 h.keys⟩
 ·have h3:=hm p hp
  cases hs:(lookM ms key).isSome with
  | true=>rw [h1 hs] at h3;rw [hc,hs];exact hb _ h3
  | false=>
   rw [h2 hs] at h3;rw [hc,hs]
   rcases List.mem_append.1 h3 with h4|h4
   ·have:=hb _ h4;simp;omega
   ·simp at h4;simp [h4]
 ·cases hs:(lookM ms key).isSome with
  | true=>rw [h1 hs];exact h.bnd
  | false=>
   rw [h2 hs,List.nodup_append];exact ⟨h.bnd,by simp,λa ha b' hb' hab=>by simp at hb';have:=hb a ha;omega⟩
def mapR (b:Nat) (tv:List Value→Value) (rep:Rep α) (ps:Kv α):Rs where
 F:=λx=>x=b
 H:=λZ w=>∃ ms c,MpA tv rep Z w b ms c ps
 keep:=fun {Z Z' w w'} ⟨ms,c,h⟩ hF hZ hZ'=>⟨ms,c,by
  refine ⟨?_,h.rp.imp λvs x hx=>rep.mono (rep.keep (rep.bd hx) λb hb hlt=>hZ b hb.1 hlt) λb hb=>hZ' b hb.1 hb.2,h.born,h.bnd,h.keys⟩;have h2:=h.mp;have:=hF b rfl h2.lt
  unfold Mp at h2 ⊢;rw [this];exact h2⟩
 lt:=λ⟨_,_,h⟩ b hb=>hb▸h.mp.lt
end
section
variable {P:Program} {f:FuncId} {n:Nat} {R:Ending→World→Prop} {k:List Item} {e:Env} {w w':World}
variable {ops:Array Oper} {i:Nat} {rest:List Nat} {d:Nat} {dst:Option Nat} {ty:TypeId} {pos:String} {af:Array Edge} {g:Option (Nat×Bool)}
variable {Z0 S:Nat→Prop} {w0:World} {L:List Rs} {α:Type} {tv:List Value→Value} {rep:Rep α} {b:Nat} {ps:Kv α}
def Lkd (w:World) (b:Nat) (key:List UInt8) (z u:Value) (is:Bool):Prop:=∃ ms c,Mp w b ms c∧(lookM ms key).getD z=u∧(lookM ms key).isSome=is
theorem Map.lkp {Z:Nat→Prop} (h:(mapR b tv rep ps).H Z w) (key:List UInt8) {zs:List Value} {zm:α} (hz:rep.rel Z w zs zm) :
 ∃ vs,Lkd w b key (tv zs) (tv vs) (lookP key ps).isSome∧rep.rel Z w vs ((lookP key ps).getD zm):=by
 obtain ⟨ms,c,h⟩:=h
 rcases h.rp.look key with ⟨h1,h2⟩|⟨vs,x,h1,h2,h3⟩
 ·exact ⟨zs,⟨ms,c,h.mp,by rw [h1];rfl,by rw [h1,h2];rfl⟩,by rw [h2];exact hz⟩
 ·exact ⟨vs,⟨ms,c,h.mp,by rw [h1];rfl,by rw [h1,h2];rfl⟩,by rw [h2];exact h3⟩
theorem V.lkpH {t kt et:TypeId} {x y:Operand} {key:List UInt8} {z u:Value} {is:Bool} (hl:Lkd w b key z u is) (ht:P.underlying t=some (.map kt et)) (hk:P.underlying kt=some .string) (hz:∀ w,(zeroValue et).run P w=.ok z w) (hx:ev e x=some (.map (some b))) (hy:ev e y=some (Str key)) :
 OpV P n e w ⟨dst,.lookup t x y false,ty,pos,af,g⟩ u w:=by
 obtain ⟨ms,c,h1,h2,_⟩:=hl;rw [← h2];exact V.lkp ht hk hz hx hy h1
theorem Hp.muUp (hm:Hp Z0 S w0 w L) (m:Nat) (hi:L[m]?=some (mapR b tv rep ps)) {key:List UInt8} {vs:List Value} {x:α} (hx:rep.rel (Zo Z0 S w0 L) w vs x) {ms:Ms} {c c':Nat} (h:MpA tv rep (Zo Z0 S w0 L) w b ms c ps)
 (hM:Mp w' b (putM key (tv vs) c ms) c') (hF:Fr (λx=>x=b) w w') (hc:c'=if (lookM ms key).isSome then c else c+1):Hp Z0 S w0 w' (L.set m (mapR b tv rep (putP key x ps))):=by
 have hk:∀ vs x,rep.rel (Zo Z0 S w0 L) w vs x→rep.rel (λb=>Zo Z0 S w0 L b∧b<w.heap.size) w' vs x:=λvs x hx=>rep.keep (rep.bd hx) λy hy hlt=>hF.keep y hlt λhh=>hy.1.2 m _ hi hh
 exact hm.upd m _ hi hF (λy hy=>.inl hy) λZ' h1 _=>⟨_,_,h.put key (rep.mono (hk _ _ hx) λy hy=>h1 y hy.1 hy.2) (λvs x hx=>rep.mono (hk _ _ hx) λy hy=>h1 y hy.1 hy.2) hM hc⟩
theorem Rn.muH {t kt et:TypeId} {x y z:Operand} {key:List UInt8} {v:α} {vs:List Value} (hm:Hp Z0 S w0 w L) (m:Nat) (hi:L[m]?=some (mapR b tv rep ps)) (ho:ops[i]?=some ⟨none,.mapUpdate t x y z,ty,pos,af,g⟩) (hg:gok e ops g=true) (ht:P.underlying t=some (.map kt et)) (hk:P.underlying kt=some .string)
 (hx:ev e x=some (.map (some b))) (hy:ev e y=some (Str key)) (hz:ev e z=some (tv vs)) (hv:rep.rel (Zo Z0 S w0 L) w vs v)
 (h:∀ w',Hp Z0 S w0 w' (L.set m (mapR b tv rep (putP key v ps)))→Rn P f n R (.inRegion ops rest::k) e w'):Rn P f n R (.inRegion ops (i::rest)::k) e w:=by
 obtain ⟨ms,c,h0⟩:=hm.get m hi
 exact Rn.mu ho hg ht hk hx hy hz h0.mp λc' w' h1 h2 h3=>h w' (hm.muUp m hi hv h0 h1 h2 h3)
theorem Rn.mkMH {t:TypeId} (tv:List Value→Value) (rep:Rep α) (hm:Hp Z0 S w0 w L) (ho:ops[i]?=some ⟨some d,.makeMap t none,ty,pos,af,g⟩) (hg:gok e ops g=true) (hn:Nat.blt d n=true)
 (h:∀ b w',Hp Z0 S w0 w' (L++[mapR b tv rep ([]:Kv α)])→Rn P f n R (.inRegion ops rest::k) ((d,.map (some b))::e) w'):Rn P f n R (.inRegion ops (i::rest)::k) e w:=
 Rn.mkM ho hg hn λb w' hb h1 h2=>h b w' (hm.add _ h2 (λx hx=>by cases hx;omega) λ_ _=>⟨[],0,h1,trivial,by simp,by simp,by simp⟩)
theorem V.externW {gg : FuncId} {fn : Func} {en : Array Value → Sem Value} {xs : List Operand} {vs : List Value} {ts : Array TypeId} {v : Value} (hf : P.funcs[gg]? = some fn) (hname : (fn.name == "runtime.NumGoroutine") = false) (hb : fn.body.isNone = true) (hn : Extern.findNext fn = none) (he : Extern.find fn = some en)
 (hx:evs e xs=some vs) (hr:(en vs.toArray).run P w=.ok v w'):OpV P n e w ⟨dst,.call { callee:=.value (.func gg),args:=xs.toArray,argTypes:=ts },ty,pos,af,g⟩ v w':=λa hfit=>by
 simp [execOp,resolve,Act.eval,Deferred.ofValue,invoke,evs_map hfit hx,run_callFunc_extern hf hname hb hn he,hr]
end
end Go.Wk
namespace Go.Wk
open Go Go.RowKit
section
variable {α:Type} {tv:List Value→Value} {rep:Rep α} {Z:Nat→Prop} {w:World}
theorem MsRep.entry:∀ {ms:Ms} {ps:Kv α} {p:List UInt8×Value×Nat},MsRep tv rep Z w ms ps→p∈ms→∃ vs x,p.2.1=tv vs∧rep.rel Z w vs x∧(p.1,x)∈ps
 | m::ms,q::ps,p,⟨h1,⟨vs,h2,h3⟩,h4⟩,hp=>by
  rcases List.mem_cons.1 hp with rfl|hp
  ·exact ⟨vs,q.2,h2,h3,by rw [h1];exact List.mem_cons_self⟩
  ·obtain ⟨vs,x,a,b,c⟩:=h4.entry hp;exact ⟨vs,x,a,b,List.mem_cons_of_mem _ c⟩
 | [],_,_,_,hp=>by cases hp
 | _::_,[],_,h0,_=>h0.elim
end
end Go.Wk
namespace Go.Wk
open Go Go.RowKit
end Go.Wk
namespace Go.Wk
open Go Go.RowKit
section
variable {α:Type}
def leK:List UInt8→List UInt8→Bool:=λx y=>decide (x≤y)
end
end Go.Wk
namespace Go.Wk
open Go Go.RowKit
end Go.Wk
namespace Go.Wk
open Go Go.RowKit
theorem Itr.ext {w w':World} {bi mb since:Nat} {seen:List Nat} (h:Itr w bi mb since seen) (hf:Ext w w'):Itr w' bi mb since seen:=h.fr hf λhh=>hh
end Go.Wk
namespace Go.Wk
open Go Go.RowKit
end Go.Wk
namespace Go.Wk
open Go Go.RowKit
section
variable {P:Program} {f:FuncId} {n:Nat} {R:Ending→World→Prop} {k:List Item} {e:Env} {ops:Array Oper}
variable {Z0 S:Nat→Prop} {w0 w w1 w':World} {K M L:List Rs}
theorem Rn.drawF {id:Nat} (hm':P.follows .mixedOrders=true) (hm:Hp Z0 S w0 w (K++M))
 (h:∀ w1,Hp Z0 S w0 w1 (K++M)→Hp (Zo Z0 S w0 (K++M)) (LS M) w1 w1 M→RH P f n R k ops (λw'=>Fr (LS M) w1 w') ops.size (Array.replicate ops.size false) e w1):Rn P f n R (.code (.region id ops true)::k) e w:=
 Rn.draw (λw'=>Fr (LS M) w.drew w') hm' (Fr.refl _ _) (h w.drew (hm.ext (Ext.drew w)) (hm.ext (Ext.drew w)).lend.start)
theorem zo_ls {b:Nat} (h:Zo Z0 S w0 (K++M) b):¬LS M b:=λ⟨i,r,hi,hr⟩=>h.2 _ r (get_right hi) hr
def Aw (Z:Nat→Prop) (w':World) (K:List Rs):Prop:=∀ (i:Nat) r,K[i]?=some r→r.H Z w'
theorem Hp.awayK (hm:Hp Z0 S w0 w1 (K++M)) (h:Fr (LS M) w1 w'):Aw (Zo Z0 S w0 (K++M)) w' K:=λi r hi=>
 r.keep (hm.hs i r (get_left hi)) (λb hb hlt=>h.keep b hlt λ⟨j,a,hj,ha⟩=>hm.ap i (K.length+j) r a (by have:=lt_of_get hi;omega) (get_left hi) (get_right hj) b hb ha) (λb hb hlt=>h.keep b hlt (zo_ls hb)) λb hb _=>hb
theorem Aw.get {Z:Nat→Prop} (a:Aw Z w' K) (i:Nat) {r:Rs} (hi:K[i]?=some r):r.H Z w':=a i r hi
theorem Aw.getz {Z:Nat→Prop} (a:Aw Z w' K) (i:Nat) {r:Rs} (hi:K[i]?=some (fzR r)):r.H Z w':=(a i _ hi).1
end
end Go.Wk
namespace Go.Wk
open Go Go.RowKit
section
variable {P:Program} {n:Nat} {K:Act→World→Prop} {ops:Array Oper} {S:World→Prop} {fuel:Nat} {listed:Array Bool} {e:Env} {w w0:World} {d:Nat} {o:Oper} {ty:TypeId} {pos:String} {af:Array Edge} {g:Option (Nat×Bool)} {Z0 S':Nat→Prop} {L:List Rs}
def RB (P:Program) (n:Nat) (K:Act→World→Prop) (ops:Array Oper) (S:World→Prop) (fuel:Nat) (listed:Array Bool) (i:Nat) (e:Env) (w:World):Prop:=
 ∀ a:Act,a.defers=[]→Fits e n a.tmps→S w→wpOp P ops (QK K) i (λa' w'=>S w'∧wpAnyH P .any ops (QK K) S fuel (listed.setIfInBounds i true) a' w') a w
theorem RH.both (i j:Nat) (hr:Region.ready .any ops listed=[i,j]) (h1:RB P n K ops S fuel listed i e w) (h2:RB P n K ops S fuel listed j e w):RG P n K ops S (fuel+1) listed e w:=λa ha hf hS=>
 wpAnyH_all hr (by simp) λq hq=>by
  rcases List.mem_cons.1 hq with rfl|hq
  ·exact h1 a ha hf hS
  ·obtain rfl:q=j:=by simpa using hq
   exact h2 a ha hf hS
theorem RB.here {i:Nat} (h:S w→RB P n K ops S fuel listed i e w):RB P n K ops S fuel listed i e w:=λa ha hf hS=>h hS a ha hf hS
theorem RB.one {v:Value} {w':World} (i:Nat) (ho:ops[i]?=some o) (hg:gok e ops o.guard=true) (hd:o.dst=some d) (hn:Nat.blt d n=true) (hv:OpV P n e w o v w') (hS':S w')
 (h:RG P n K ops S fuel (listed.setIfInBounds i true) ((d,v)::e) w'):RB P n K ops S fuel listed i e w:=by
 intro a ha hf hS;unfold wpOp;simp only [ho,wanted_of_gok hf hg,if_true];refine .inl ?_;unfold Oper.wp;rw [hv a hf,Oper.upon_value,hd];exact ⟨hS',h _ (by rw [defers_put];exact ha) (fits_put hf hn v) hS'⟩
end
end Go.Wk
namespace Go.Wk
open Go Go.RowKit
def mkL {α:Type} (n:Int) (z:α):Option (List α):=if 0≤n∧n≤1073741824 then some (List.replicate n.toNat z) else none
theorem mkLE {α:Type} {n:Int} {z:α} {xs:List α} (h:mkL n z=some xs):∃ k:Nat,n=k∧k≤1073741824∧xs=List.replicate k z:=by
 unfold mkL at h
 split at h
 ·rename_i hh;exact ⟨n.toNat,by omega,by omega,(Option.some.inj h).symm⟩
 ·cases h
theorem made_flat (zs:List Value) (hz:0<zs.length):∀ n:Nat,(madeCells zs.toArray (n*zs.length)).toList=(List.replicate n zs).flatten
 | 0=>by simp [madeCells]
 | n+1=>by
  have ih:=made_flat zs hz n;simp only [madeCells,Array.toList_map,Array.toList_range] at ih ⊢;rw [Nat.succ_mul,List.range_add,List.map_append,ih,List.replicate_succ',List.flatten_append]
  congr 1
  simp only [List.map_map,List.flatten_cons,List.flatten_nil,List.append_nil]
  apply List.ext_getElem
  ·simp
  ·intro i h1 h2
   have hi:i<zs.length:=h2;simp only [List.getElem_map,List.getElem_range,Function.comp_def,List.size_toArray];rw [Nat.mul_comm,Nat.mul_add_mod,Nat.mod_eq_of_lt hi];simp [hi]
section
variable {P:Program} {f:FuncId} {n:Nat} {R:Ending→World→Prop} {k:List Item} {e:Env} {w:World}
variable {ops:Array Oper} {i:Nat} {rest:List Nat} {d:Nat} {ty:TypeId} {pos:String} {af:Array Edge} {g:Option (Nat×Bool)}
variable {Z0 S:Nat→Prop} {w0:World} {L:List Rs} {α:Type} {rep:Rep α}
theorem mk_run {by_:Nat} {t el:TypeId} {m:Int} {zm:α} {xs:List α} {zs:List Value} (hm:Hp Z0 S w0 w L) (hxs:mkL m zm=some xs) (ht:P.underlying t=some (.slice el)) (hel:ElOk P el rep.sz by_) (hby:Nat.ble by_ 131072=true)
 (hzc:((P.info? el).bind (·.zero)).map (·.cells)=some zs.toArray) (hrel:∀ (Z:Nat→Prop) (w:World),rep.rel Z w zs zm) :
 ∃ b w',(Instr.makeSlice t (.int .i64 m) (.int .i64 m)).run P w=.ok (.slice (some ⟨b,0,none⟩) xs.length xs.length) w'∧Ext w w'∧Hp Z0 S w0 w' (L++[ownR el (some ⟨b,0,none⟩) xs.length rep xs]):=by
 obtain ⟨q,rfl,hq,rfl⟩:=mkLE hxs;obtain ⟨inf,z,hi,hz,hs,hb,hcs,hp⟩:=hel;rw [hi] at hzc;simp only [Option.bind_some,hz,Option.map_some,Option.some.injEq] at hzc;have hzl:zs.length=rep.sz:=rep.len (hrel No w)
 have hbq:=mul_by hq hby
 have hby2:(inf.bytes:Int)*(q:Int)≤281474976710656:=by
  have h1:((q*by_:Nat):Int)≤140737488355328:=by omega
  rw [Int.natCast_mul] at h1;rw [hb,Int.mul_comm];omega
 have hr:=run_make (P:=P) w t el inf z ht hi hz .i64 .i64 q q (by omega) (Int.le_refl _) hby2 (by omega);simp only [Int.toNat_natCast] at hr
 have hcell:(madeCells z.cells (q*inf.size))=((List.replicate q zs).flatten).toArray:=by
  have:=made_flat zs (by omega) q;rw [hzc,hs,← hzl]
  apply Array.toList_inj.1
  rw [this]
 rw [hcell] at hr;refine ⟨_,_,by rw [List.length_replicate];exact hr,Ext.alloc w _,?_⟩;have hB:Blk (w.alloc (.cells ((List.replicate q zs).flatten).toArray el)) w.heap.size el (List.replicate q zs).flatten:=Blk.new w el _
 refine hm.add _ (Ext.alloc w _) (λx hx=>by cases hx;exact Nat.le_refl _) λZ _=>⟨Nat.le_refl _,by rw [List.length_replicate];unfold maxLen;omega,.inr ⟨w.heap.size,_,List.replicate q zs,rfl,Nat.zero_le _,hB,?_,by simp,λk vs x hv hx=>?_,?_⟩⟩
 ·rw [List.length_flatten];simp [hzl]
 ·rw [List.getElem?_replicate] at hv hx
  split at hv
  ·rename_i hk;rw [if_pos hk] at hx;cases hv;cases hx;exact hrel _ _
  ·cases hv
 ·rw [List.length_replicate]
  exact List.take_of_length_le (by rw [List.length_flatten];simp [hzl])
theorem Rn.mkSlH {by_:Nat} {t el:TypeId} {x y:Operand} {m:Int} {zm:α} {xs:List α} {zs:List Value} (hm:Hp Z0 S w0 w L) (hxs:mkL m zm=some xs) (ho:ops[i]?=some ⟨some d,.makeSlice t x y,ty,pos,af,g⟩) (hg:gok e ops g=true) (hn:Nat.blt d n=true) (ht:P.underlying t=some (.slice el)) (hel:ElOk P el rep.sz by_) (hby:Nat.ble by_ 131072=true)
 (hzc:((P.info? el).bind (·.zero)).map (·.cells)=some zs.toArray) (hx:ev e x=some (.int .i64 m)) (hy:ev e y=some (.int .i64 m)) (hrel:∀ (Z:Nat→Prop) (w:World),rep.rel Z w zs zm)
 (h:∀ b w',Hp Z0 S w0 w' (L++[ownR el (some ⟨b,0,none⟩) xs.length rep xs])→Rn P f n R (.inRegion ops rest::k) ((d,.slice (some ⟨b,0,none⟩) xs.length xs.length)::e) w'):Rn P f n R (.inRegion ops (i::rest)::k) e w:=by
 obtain ⟨b,w',hr,_,hm'⟩:=mk_run hm hxs ht hel hby hzc hrel;exact Rn.opV ho hg rfl hn (λa hf=>by simp [execOp,ev_eval hf hx,ev_eval hf hy,hr]) (h b w' hm')
end
end Go.Wk
namespace Go.Wk
open Go Go.RowKit
theorem optR_flat {α:Type} {o:Option α} {R:α→Rs} (h:∀ z,(R z).Flat):(optR o R).Flat:=λZ Z' w hh z hz=>h z Z Z' w (hh z hz)
section
variable {P:Program} {f:FuncId} {n:Nat} {R:Ending→World→Prop} {k:List Item} {e:Env} {w:World}
variable {ops:Array Oper} {i:Nat} {rest:List Nat} {d:Nat} {ty:TypeId} {pos:String} {af:Array Edge} {g:Option (Nat×Bool)}
variable {Z0 S:Nat→Prop} {w0:World} {L:List Rs}
end
end Go.Wk
set_option linter.unusedVariables false
set_option linter.unusedSimpArgs false
namespace Go.Wk
open Go Go.RowKit
open Go.Proofs (encStr)
section
variable {α:Type}
variable {P:Program} {tv:List Value→Value} {rep:Rep α} {Z:Nat→Prop} {w w1:World} {b c:Nat} {ms:Ms} {ps:Kv α} {kt:TypeId}
theorem flat_str:∀ ss:List (List UInt8),ss.map encStr=(ss.map λs=>[Str s]).flatten
 | []=>rfl
 | s::r=>by rw [List.map_cons,List.map_cons,List.flatten_cons,← flat_str r];rfl
theorem own_row {base e n:Nat} {v:Value} {ss:List (List UInt8)} (hn:n=ss.length) (h:w.ownsRow base e 1 v n (ss.map encStr)):∃ A c,v=.slice A ss.length c∧Own base No w e A c textR ss:=by
 subst hn;obtain ⟨_,h⟩:=h
 rcases h with ⟨rfl,h0⟩|⟨g,cap,cur,rfl,hb,hg,h1,h2,h3,h4⟩
 ·obtain rfl:=List.length_eq_zero_iff.1 h0
  exact ⟨none,0,rfl,Own.nil _ _ _ _ _⟩
 ·refine ⟨_,cap,rfl,h1,h2,.inr ⟨g,cur.toList,ss.map λs=>[Str s],rfl,hb,by unfold Blk;simpa using hg,?_,by simp,λk vs x hv hx=>?_,?_⟩⟩
  ·show cap*1≤_;rw [Array.length_toList];omega
  ·rw [List.getElem?_map,hx] at hv;cases hv;exact ⟨rfl,trivial⟩
  ·show cur.toList.take (ss.length*1)=_
   rw [h4];exact flat_str ss
end
end Go.Wk
set_option linter.unusedVariables false
set_option linter.unusedSimpArgs false
namespace Go.Wk
open Go Go.RowKit
def ArOk (P:Program) (t:TypeId) (zs:List Value) (n s:Nat) (el:TypeId):Prop:=
 (∀ w,(zeroValue t).run P w=.ok (.agg zs.toArray) w)∧P.underlying t=some (.array n el)∧(∀ w,(sizeOf el).run P w=.ok s w)
theorem fill_mono (p q:Nat→Option (Nat×Nat)) (hpq:∀ i v,p i=some v→q i=some v):∀ (l:List (Nat×Value)) (cs r:Array Value),Instr.fill p cs l=some r→Instr.fill q cs l=some r
 | [],cs,r,h=>h
 | (i,v)::rest,cs,r,h=>by
  simp only [Instr.fill] at h ⊢
  cases hp:p i with
  | none=>rw [hp] at h;cases h
  | some x=>
   obtain ⟨off,size⟩:=x;rw [hpq i _ hp];rw [hp] at h;dsimp only at h ⊢
   split
   ·rename_i hc;rw [if_pos hc] at h;cases h
   ·rename_i hc;rw [if_neg hc] at h;exact fill_mono p q hpq rest _ _ h
section
variable {P:Program} {f:FuncId} {n:Nat} {e:Env} {w:World}
variable {dst:Option Nat} {ty:TypeId} {pos:String} {af:Array Edge} {g:Option (Nat×Bool)}
theorem V.bldA {t el:TypeId} {ps:Array (Nat×Operand)} {us:List Value} {zs cs:List Value} {m s:Nat} (offs:List (Nat×Nat)) (hst:ArOk P t zs m s el) (ho:∀ i v,offs[i]?=some v→v=(i*s,s)) (hx:evs e (ps.toList.map (·.2))=some us) (hf:fillL offs zs ((ps.toList.map (·.1)).zip us)=some cs) :
 OpV P n e w ⟨dst,.build t ps,ty,pos,af,g⟩ (.agg cs.toArray) w:=by
 obtain ⟨hz,hu,hs⟩:=hst
 refine V.bld hx λw=>?_
 have hfill:=fill_mono _ (λi=>some (i*s,s)) (λi v h=>by
  have h':offs[i]?=some v:=by simpa using h
  rw [ho i v h']) _ _ _ (fill_eq offs _ _ _ hf)
 simp only [Instr.build,Sem.run_bind,hz,Result.andThen_ok,run_underlying hu,hs,Value.cells];rw [hfill];simp
theorem V.arE {t el:TypeId} {x y:Operand} {zs cs:List Value} {m s:Nat} {i:Int} {kd:IntKind} {v:Value} (hst:ArOk P t zs m s el) (ha:∀ w,(isAgg el).run P w=.ok true w) (hx:ev e x=some (.agg cs.toArray)) (hy:ev e y=some (.int kd i)) (h0:0≤i∧i<m)
 (hv:Value.agg (cs.toArray.extract (i.toNat*s) (i.toNat*s+s))=v):OpV P n e w ⟨dst,.index t x y,ty,pos,af,g⟩ v w:=λb hf=>by
 obtain ⟨_,hu,hs⟩:=hst;subst hv;simp [execOp,ev_eval hf hx,ev_eval hf hy,Instr.index,asIntOf,run_underlying hu,h0.1,h0.2,part,ha,hs]
end
section
variable {α β:Type} {rep:Rep β} {Z0 S:Nat→Prop} {w0 w:World} {L:List Rs}
theorem Hp.idx2 {x0 x1 z:α} {i:Int} {A0 A1:Option Addr} {c0 c1:Nat} (cnt:α→List β) (he:idx [x0,x1] i=some z) (hm:Hp Z0 S w0 w L) (i0 i1:Nat) (h0:L[i0]?=some (slR A0 c0 rep (cnt x0))) (h1:L[i1]?=some (slR A1 c1 rep (cnt x1))) :
 ∃ A c,Hp Z0 S w0 w (L++[slR A c rep (cnt z)])∧((i=0∧A=A0∧c=c0∧z=x0)∨(i=1∧A=A1∧c=c1∧z=x1)):=by
 unfold idx at he
 split at he
 ·rename_i hi
  obtain ⟨k,rfl⟩:∃ k:Nat,i=k:=⟨i.toNat,by omega⟩;rw [Int.toNat_natCast] at he
  match k,he with
  | 0,he=>
   obtain rfl:x0=z:=by simpa using he
   exact ⟨A0,c0,by have:=hm.dup i0 h0 (λ_ h=>h);exact this,.inl ⟨rfl,rfl,rfl,rfl⟩⟩
  | 1,he=>
   obtain rfl:x1=z:=by simpa using he
   exact ⟨A1,c1,by have:=hm.dup i1 h1 (λ_ h=>h);exact this,.inr ⟨rfl,rfl,rfl,rfl⟩⟩
  | k+2,he=>simp at he
 ·cases he
end
end Go.Wk
namespace Go.Wk
open Go Go.RowKit
theorem offs_range (n s:Nat):∀ (i:Nat) v,((List.range n).map λi=>(i*s,s))[i]?=some v→v=(i*s,s):=by
 intro i v h;rw [List.getElem?_map] at h
 cases hi:(List.range n)[i]? with
 | none=>rw [hi] at h;cases h
 | some k=>
  rw [hi] at h
  have:k=i:=by
   have h2:=List.getElem?_eq_some_iff.1 hi;obtain ⟨hl,h3⟩:=h2;rw [List.getElem_range] at h3;exact h3.symm
  subst this;exact (Option.some.inj h).symm
theorem idx_bd {α:Type} {l:List α} {i:Int} {z:α} {m:Nat} (h:idx l i=some z) (hl:l.length=m):0≤i∧i<m:=by
 unfold idx at h
 split at h
 ·have:=(List.getElem?_eq_some_iff.1 h).1;omega
 ·cases h
end Go.Wk
namespace Go.Wk
open Go Go.RowKit
def cry (a b:UInt64):UInt64:=if 18446744073709551616≤a.toNat+b.toNat then 1 else 0
theorem cry_nat (a b:UInt64):((cry a b).toNat:Int)=((a.toNat:Int)+b.toNat+0)/18446744073709551616:=by
 have h1:=a.toNat_lt;have h2:=b.toNat_lt;unfold cry
 split
 ·show ((1:Nat):Int)=_;omega
 ·show ((0:Nat):Int)=_;omega
theorem add_nat (a b:UInt64):((a+b).toNat:Int)=((a.toNat:Int)+b.toNat+0)%18446744073709551616:=by
 rw [UInt64.toNat_add];omega
section
variable {P:Program} {n:Nat} {e:Env} {w:World}
variable {dst:Option Nat} {ty:TypeId} {pos:String} {af:Array Edge} {g:Option (Nat×Bool)}
theorem V.add64 {gg : FuncId} {fn : Func} {xs : List Operand} {ts : Array TypeId} {a b : UInt64} (hf : P.funcs[gg]? = some fn) (hname : (fn.name == "runtime.NumGoroutine") = false) (hb : fn.body.isNone = true) (hn : Extern.findNext fn = none) (he : Extern.find fn = some Go.add64Entry)
 (hx:evs e xs=some [.int .u64 ((a.toNat:Nat):Int),.int .u64 ((b.toNat:Nat):Int),.int .u64 0]):OpV P n e w ⟨dst,.call { callee:=.value (.func gg),args:=xs.toArray,argTypes:=ts },ty,pos,af,g⟩ (.tuple #[.int .u64 (((a+b).toNat:Nat):Int),.int .u64 (((cry a b).toNat:Nat):Int)]) w:=by
 refine V.externW hf hname hb hn he hx ?_;rw [cry_nat,add_nat];exact Go.run_add64 _ _ _ (by omega) (by omega) (by omega) (by omega) w
end
end Go.Wk
namespace Go.Wk
open Go Go.RowKit
abbrev Flt (u:UInt64):Value:=.float .f64 u.toNat
def fltLt (a b:UInt64):Bool:=FloatKind.f64.format.order a.toNat b.toNat==some .lt
section
variable {P:Program} {n:Nat} {e:Env} {w:World}
variable {dst:Option Nat} {ty:TypeId} {pos:String} {af:Array Edge} {g:Option (Nat×Bool)}
theorem V.lssF {x y:Operand} {a b:UInt64} {t u:TypeId} (hx:ev e x=some (Flt a)) (hy:ev e y=some (Flt b)) :
 OpV P n e w ⟨dst,.binOp .lss t x y u,ty,pos,af,g⟩ (.bool (fltLt a b)) w:=
 λc hf=>by simp [execOp,ev_eval hf hx,ev_eval hf hy,eqGuard,binOp,Op.floatCmp,fltLt]
theorem V.fltOf {gg : FuncId} {fn : Func} {xs : List Operand} {ts : Array TypeId} {a : UInt64} (hf : P.funcs[gg]? = some fn) (hname : (fn.name == "runtime.NumGoroutine") = false) (hb : fn.body.isNone = true) (hn : Extern.findNext fn = none) (he : Extern.find fn = some Extern.MathFloatBits.float64frombits)
 (hx:evs e xs=some [.int .u64 ((a.toNat:Nat):Int)]):OpV P n e w ⟨dst,.call { callee:=.value (.func gg),args:=xs.toArray,argTypes:=ts },ty,pos,af,g⟩ (Flt a) w:=
 V.externW hf hname hb hn he hx rfl
end
end Go.Wk
namespace Go.Wk
open Go Go.RowKit
theorem b64_and (t:TypeId) (u v:UInt64):binOp .and t (.int .u64 u.toNat) (.int .u64 v.toNat)=pure (.int .u64 (u&&&v).toNat):=by
 rw [binOp_and,intBits_and];congr 2
 have h1:BitVec.ofInt 64 (u.toNat:Int)=u.toBitVec:=by apply BitVec.eq_of_toNat_eq;simp
 have h2:BitVec.ofInt 64 (v.toNat:Int)=v.toBitVec:=by apply BitVec.eq_of_toNat_eq;simp
 show IntKind.u64.wrap ((BitVec.ofInt 64 (u.toNat:Int)&&&BitVec.ofInt 64 (v.toNat:Int)).toNat:Int)=_;rw [h1,h2,wu64 (by omega) (by have:=(u.toBitVec&&&v.toBitVec).isLt;omega)];simp
end Go.Wk
set_option linter.unusedVariables false
set_option linter.unusedSimpArgs false
namespace Go.Wk
open Go Go.RowKit
section
variable {P:Program} {w:World}
end
end Go.Wk
namespace Go.Wk
open Go Go.RowKit
end Go.Wk
namespace Go.Wk
open Go Go.RowKit
section
variable {P:Program} {f:FuncId} {n:Nat} {R:Ending→World→Prop} {k:List Item} {e:Env} {w w0:World}
variable {ops:Array Oper} {i:Nat} {rest:List Nat} {d:Nat} {ty:TypeId} {pos:String} {af:Array Edge} {g:Option (Nat×Bool)}
variable {Z0 S:Nat→Prop} {L:List Rs}
end
end Go.Wk
set_option linter.unusedVariables false
set_option linter.unusedSimpArgs false
namespace Go.Wk
open Go Go.RowKit
def FoL (P:Program):List Field→List Nat→Prop
 | [],[]=>True
 | fd::fs,o::os=>(∃ sz,(∀ w,(sizeOf fd.type).run P w=.ok sz w)∧Nat.beq sz 0=false)∧fd.offset=o∧FoL P fs os
 | _,_=>False
def FoOk (P:Program) (s:TypeId) (offs:List Nat):Prop:=∃ fs:Array Field,P.underlying s=some (.struct fs)∧FoL P fs.toList offs
theorem FoL.at {P:Program}:∀ {fs:List Field} {os:List Nat} {m o:Nat},FoL P fs os→os[m]?=some o→∃ fd sz,fs[m]?=some fd∧(∀ w,(sizeOf fd.type).run P w=.ok sz w)∧Nat.beq sz 0=false∧fd.offset=o
 | [],[],m,o,_,h=>by simp at h
 | [],_::_,_,_,h,_=>h.elim
 | _::_,[],_,_,h,_=>h.elim
 | fd::fs,q::os,0,o,⟨⟨sz,h1,h2⟩,h3,_⟩,h=>by simp at h;subst h;exact ⟨fd,sz,rfl,h1,h2,h3⟩
 | fd::fs,q::os,m+1,o,⟨_,_,hr⟩,h=>by
  have:=FoL.at (m:=m) hr (by simpa using h);simpa using this
def lkD:List (Nat×List Nat)→Nat→Option (List Nat)
 | [],_=>none
 | p::r,t=>bif Nat.beq p.1 t then some p.2 else lkD r t
def TabOk (P:Program) (D:List (Nat×List Nat)):Prop:=∀ s offs,lkD D s=some offs→FoOk P s offs
theorem TabOk.nil {P:Program}:TabOk P []:=λ_ _ h=>by cases h
theorem TabOk.cons {P:Program} {D:List (Nat×List Nat)} {s:Nat} {offs:List Nat} (h:FoOk P s offs) (hr:TabOk P D):TabOk P ((s,offs)::D):=λt o ht=>by
 simp only [lkD] at ht
 cases hb:Nat.beq s t with
 | true=>rw [hb] at ht;cases ht;rw [← Nat.eq_of_beq_eq_true hb];exact h
 | false=>rw [hb] at ht;exact hr t o ht
def zop:BinOp→Int→Int→Option Value
 | .add,a,b=>some (.int .i64 (W64 (a+b)))
 | .sub,a,b=>some (.int .i64 (W64 (a-b)))
 | .mul,a,b=>some (.int .i64 (W64 (a*b)))
 | .lss,a,b=>some (.bool (decide (a<b)))
 | .leq,a,b=>some (.bool (decide (a≤b)))
 | .gtr,a,b=>some (.bool (decide (a>b)))
 | .geq,a,b=>some (.bool (decide (a≥b)))
 | .eql,a,b=>some (.bool (decide (a=b)))
 | .neq,a,b=>some (.bool (decide (a≠b)))
 | _,_,_=>none
def pop (D:List (Nat×List Nat)) (e:Env):Op→Option Value
 | .move x=>ev e x
 | .assign x=>ev e x
 | .nilCheck x=>match ev e x with
  | some (.pointer (some p))=>some (.pointer (some p))
  | _=>none
 | .fieldAddr s x m=>match ev e x with
  | some (.pointer (some ⟨b,o,none⟩))=>match lkD D s with
   | some offs=>match offs[m]? with
    | some off=>some (.pointer (some ⟨b,o+off,none⟩))
    | none=>none
   | none=>none
  | _=>none
 | .pick c x y=>match ev e c with
  | some (.bool true)=>ev e x
  | some (.bool false)=>ev e y
  | _=>none
 | .extract x j=>match ev e x with
  | some (.tuple vs)=>vs[j]?
  | _=>none
 | .binOp b _ x y _=>match ev e x with
  | some (.int .i64 a)=>match ev e y with
   | some (.int .i64 c)=>zop b a c
   | _=>none
  | _=>none
 | _=>none
theorem pop_ok {P:Program} {D:List (Nat×List Nat)} (hD:TabOk P D) {n:Nat} {e:Env} {w:World} {o:Oper} {v:Value} (h:pop D e o.op=some v):OpV P n e w o v w:=by
 obtain ⟨dst,op,ty,pos,af,g⟩:=o;simp only at h;unfold pop at h
 split at h
 ·exact V.mv h
 ·exact V.as h
 ·split at h
  ·rename_i hp;cases h;exact V.nil hp
  ·cases h
 ·split at h
  ·rename_i hp
   split at h
   ·rename_i offs ho
    split at h
    ·rename_i off hoff
     cases h
     obtain ⟨fs,h1,h2⟩:=hD _ _ ho;obtain ⟨fd,sz,h3,h4,h5,rfl⟩:=h2.at hoff;exact V.fa h1 (by simpa using h3) h4 h5 hp
    ·cases h
   ·cases h
  ·cases h
 ·split at h
  ·rename_i hp;exact V.pkT hp h
  ·rename_i hp;exact V.pkF hp h
  ·cases h
 ·split at h
  ·rename_i hp;exact V.ext hp h
  ·cases h
 ·split at h
  ·rename_i hx
   split at h
   ·rename_i hy
    unfold zop at h
    split at h<;>first | cases h | skip
    ·exact V.addW hx hy
    ·exact V.subW hx hy
    ·exact V.mulW hx hy
    ·exact V.lss hx hy
    ·exact V.leq hx hy
    ·exact V.gtr hx hy
    ·exact V.geq hx hy
    ·exact V.eql hx hy
    ·exact V.neq hx hy
   ·cases h
  ·cases h
 ·cases h
def sr (D:List (Nat×List Nat)) (n:Nat):Nat→List Item→Env→Option (List Item×Env)
 | 0,k,e=>some (k,e)
 | m+1,k,e=>match k with
  | .code c::k=>match c with
   | .skip=>sr D n m k e
   | .label _=>sr D n m k e
   | .seq x y=>sr D n m (.code x::.code y::k) e
   | .block id c=>sr D n m (.code c::.inBlock id::k) e
   | .scope c=>sr D n m (.code c::.inScope c::k) e
   | .exit id=>match exitTo id k with
    | some k'=>sr D n m k' e
    | none=>none
   | .goto l=>match gotoIn l k with
    | some k'=>sr D n m k' e
    | none=>none
   | .region _ ops false=>sr D n m (.inRegion ops (List.range ops.size)::k) e
   | .cond c x y=>match ev e c with
    | some (.bool true)=>sr D n m (.code x::k) e
    | some (.bool false)=>sr D n m (.code y::k) e
    | _=>none
   | _=>none
  | .inBlock _::k=>sr D n m k e
  | .inScope _::k=>sr D n m k e
  | .inRegion _ []::k=>sr D n m k e
  | .inRegion ops (i::rest)::k=>match ops[i]? with
   | some o=>match o.dst with
    | some d=>bif Nat.blt d n then (bif gok e ops o.guard then (match pop D e o.op with
     | some v=>sr D n m (.inRegion ops rest::k) ((d,v)::e)
     | none=>none)
     else bif gno e ops o.guard then sr D n m (.inRegion ops rest::k) ((d,undef)::e) else none) else none
    | none=>bif gno e ops o.guard then sr D n m (.inRegion ops rest::k) e else none
   | none=>none
  | _=>none
theorem sr_ok {P:Program} {D:List (Nat×List Nat)} (hD:TabOk P D) {f:FuncId} {n:Nat} {R:Ending→World→Prop} {w:World}:∀ (m:Nat) (k:List Item) (e:Env) {k':List Item} {e':Env},sr D n m k e=some (k',e')→Rn P f n R k' e' w→Rn P f n R k e w:=by
 intro m
 induction m with
 | zero=>intro k e k' e' h hr;simp only [sr] at h;cases h;exact hr
 | succ m ih=>
  intro k e k' e' h hr;simp only [sr] at h
  split at h
  ·split at h
   ·exact Rn.skip (ih _ _ h hr)
   ·exact Rn.label (ih _ _ h hr)
   ·exact Rn.seq (ih _ _ h hr)
   ·exact Rn.block (ih _ _ h hr)
   ·exact Rn.scope (ih _ _ h hr)
   ·split at h
    ·rename_i hk;exact Rn.exit hk (ih _ _ h hr)
    ·cases h
   ·split at h
    ·rename_i hk;exact Rn.goto hk (ih _ _ h hr)
    ·cases h
   ·exact Rn.reg (ih _ _ h hr)
   ·split at h
    ·rename_i hk;exact Rn.condT hk (ih _ _ h hr)
    ·rename_i hk;exact Rn.condF hk (ih _ _ h hr)
    ·cases h
   ·cases h
  ·exact Rn.inBlock (ih _ _ h hr)
  ·exact Rn.inScope (ih _ _ h hr)
  ·exact Rn.regEnd (ih _ _ h hr)
  ·split at h
   ·rename_i o ho
    split at h
    ·rename_i d hd
     cases hn:Nat.blt d n with
     | false=>rw [hn] at h;cases h
     | true=>
      rw [hn] at h
      cases hg:gok e _ o.guard with
      | true=>
       rw [hg] at h;simp only [cond_true] at h
       split at h
       ·rename_i v hv;exact Rn.v ho hg hd hn (pop_ok hD hv) (ih _ _ h hr)
       ·cases h
      | false=>
       rw [hg] at h;simp only [cond_true,cond_false] at h
       cases hg':gno e _ o.guard with
       | true=>rw [hg'] at h;exact Rn.no ho hg' hd hn (ih _ _ h hr)
       | false=>rw [hg'] at h;cases h
    ·rename_i hd
     cases hg':gno e _ o.guard with
     | true=>rw [hg'] at h;exact Rn.noU ho hg' hd (ih _ _ h hr)
     | false=>rw [hg'] at h;cases h
   ·cases h
  ·cases h
def ft (n:Nat) (ops:Array Oper) (i:Nat) (e:Env):Option (Oper×Nat):=match ops[i]? with
 | some o=>match o.dst with
  | some d=>bif Nat.blt d n then (bif gok e ops o.guard then some (o,d) else none) else none
  | none=>none
 | none=>none
theorem ft_ok {n:Nat} {ops:Array Oper} {i:Nat} {e:Env} {o:Oper} {d:Nat} (h:ft n ops i e=some (o,d)):ops[i]?=some o∧gok e ops o.guard=true∧o.dst=some d∧Nat.blt d n=true:=by
 unfold ft at h
 split at h
 ·rename_i o' ho
  split at h
  ·rename_i d' hd
   cases hn:Nat.blt d' n with
   | false=>rw [hn] at h;cases h
   | true=>
    cases hg:gok e ops o'.guard with
    | false=>rw [hn,hg] at h;cases h
    | true=>rw [hn,hg] at h;cases h;exact ⟨ho,hg,hd,hn⟩
  ·cases h
 ·cases h
section
variable {P:Program} {f:FuncId} {n:Nat} {R:Ending→World→Prop} {k:List Item} {e:Env} {w w':World} {ops:Array Oper} {i:Nat} {rest:List Nat} {o:Oper}
theorem Rn.q {v:Value} {d:Nat} (h0:ft n ops i e=some (o,d)) (hv:OpV P n e w o v w') (h:Rn P f n R (.inRegion ops rest::k) ((d,v)::e) w'):Rn P f n R (.inRegion ops (i::rest)::k) e w:=
 let ⟨h1,h2,h3,h4⟩:=ft_ok h0;Rn.v h1 h2 h3 h4 hv h
end
theorem pickL_app (L:List Rs):∀ (a b:List Nat),pickL L (a++b)=pickL L a++pickL L b
 | [],b=>rfl
 | i::r,b=>by
  simp only [List.cons_append,pickL]
  cases L[i]? with
  | none=>exact pickL_app L r b
  | some x=>simp only [List.cons_append,pickL_app L r b]
theorem Hp.cut {Z0 S:Nat→Prop} {w0 w:World} {L:List Rs} (hm:Hp Z0 S w0 w L) (a b:List Nat) (h:(a++b).all (λi=>Nat.blt i L.length)=true) (hnd:(a++b).Nodup):Hp Z0 S w0 w (pickL L a++pickL L b):=by
 rw [← pickL_app];exact hm.pick _ h hnd
theorem iteFB {α:Type} {b:Bool} {x y:Option α} {r:α} (hM:(if b=true then x else y)=some r) (h:b=false):y=some r:=by subst h;exact hM
theorem Hp.nf {Z0 S:Nat→Prop} {w0 w:World} {L:List Rs} (hm:Hp Z0 S w0 w L) (L':List Rs) (h:L=L'):Hp Z0 S w0 w L':=h▸hm
theorem Hp.reBox {Z0 S:Nat→Prop} {w0 w:World} {L:List Rs} (hm:Hp Z0 S w0 w L) {b:Nat} {t:TypeId} {cs cs':List Value} (i:Nat) (hi:L[i]?=some (boxR b t cs)) (h:cs=cs'):Hp Z0 S w0 w (L.set i (boxR b t cs')):=by
 subst h;have hil:=lt_of_get hi
 have:L.set i (boxR b t cs)=L:=by
  have hx:L[i]=boxR b t cs:=by rw [List.getElem?_eq_getElem hil] at hi;exact Option.some.inj hi
  rw [← hx];exact List.set_getElem_self hil
 rw [this];exact hm
abbrev Hp.Z {Z0 S:Nat→Prop} {w0 w:World} {L:List Rs} (_:Hp Z0 S w0 w L):Nat→Prop:=Zo Z0 S w0 L
def okTakes (ops:Array Oper):Array Bool→List Nat→Bool
 | _,[]=>true
 | l,i::r=>okTake ops l i&&okTakes ops (l.setIfInBounds i true) r
def taken:Array Bool→List Nat→Array Bool
 | l,[]=>l
 | l,i::r=>taken (l.setIfInBounds i true) r
def dr (D:List (Nat×List Nat)) (n:Nat) (ops:Array Oper):List Nat→Env→Option Env
 | [],e=>some e
 | i::r,e=>match ops[i]? with
  | some o=>match o.dst with
   | some d=>bif Nat.blt d n then (bif gok e ops o.guard then (match pop D e o.op with
    | some v=>dr D n ops r ((d,v)::e)
    | none=>none)
    else bif gno e ops o.guard then dr D n ops r ((d,undef)::e) else none) else none
   | none=>none
  | none=>none
theorem dr_ok {P:Program} {D:List (Nat×List Nat)} (hD:TabOk P D) {n:Nat} {K:Act→World→Prop} {S:World→Prop} {w:World} {ops:Array Oper}:∀ (is:List Nat) {fuel:Nat} {listed:Array Bool} {e e':Env},okTakes ops listed is=true→Nat.ble is.length fuel=true→dr D n ops is e=some e' →
 RG P n K ops S (fuel-is.length) (taken listed is) e' w→RG P n K ops S fuel listed e w:=by
 intro is
 induction is with
 | nil=>intro fuel listed e e' _ _ h hr;simp only [dr] at h;cases h;exact hr
 | cons i r ih=>
  intro fuel listed e e' hk hf h hr;simp only [okTakes,Bool.and_eq_true] at hk;have hf':r.length+1≤fuel:=Nat.le_of_ble_eq_true hf;obtain ⟨q,rfl⟩:∃ q,fuel=q+1:=⟨fuel-1,by omega⟩
  have hq:Nat.ble r.length q=true:=by rw [Nat.ble_eq];omega
  have hfu:q+1-(i::r).length=q-r.length:=by simp
  rw [hfu] at hr;simp only [dr] at h
  split at h
  ·rename_i o ho
   split at h
   ·rename_i d hd
    cases hn:Nat.blt d n with
    | false=>rw [hn] at h;cases h
    | true=>
     rw [hn] at h
     cases hg:gok e ops o.guard with
     | true=>
      rw [hg] at h;simp only [cond_true] at h
      split at h
      ·rename_i v hv;exact RH.take i hk.1 ho hg hd hn (λ_ _=>pop_ok hD hv) (ih hk.2 hq h hr)
      ·cases h
     | false=>
      rw [hg] at h;simp only [cond_true,cond_false] at h
      cases hg':gno e ops o.guard with
      | true=>rw [hg'] at h;exact RH.no i hk.1 ho hg' hd hn (ih hk.2 hq h hr)
      | false=>rw [hg'] at h;cases h
   ·cases h
  ·cases h
theorem eqF_nil {P:Program} {d:Nat} {xs ys:Array Value} {w:World}:(Op.eqFields d xs ys []).run P w=.ok (decide True) w:=by simp [Op.eqFields]
theorem eqF_cons {P : Program} {d : Nat} {xs ys : Array Value} {w : World} {f : Field} {fs : List Field} {a b : Value} {p q : Prop} [Decidable p] [Decidable q] (hn : (f.name == "_") = false) (ht : ∀ w, (isAgg f.type).run P w = .ok false w) (ha : xs[f.offset]? = some a) (hb : ys[f.offset]? = some b)
 (he:(Op.equalIn d f.type a b).run P w=.ok (decide p) w) (hr:(Op.eqFields d xs ys fs).run P w=.ok (decide q) w):(Op.eqFields d xs ys (f::fs)).run P w=.ok (decide (p∧q)) w:=by
 have hn' : f.name ≠ "_" := by intro h; rw [h] at hn; cases hn
 have pa:(part f.type xs f.offset).run P w=.ok a w:=by simp [part,ht,ha]
 have pb:(part f.type ys f.offset).run P w=.ok b w:=by simp [part,ht,hb]
 simp only [Op.eqFields,hn',ne_eq,not_false_eq_true,if_true,Sem.run_bind,pa,pb,he,Result.andThen_ok]
 by_cases hp:p
 ·simp [hp,hr]
 ·simp [hp]
theorem eqF_top {P:Program} {t:TypeId} {xs ys:Array Value} {w:World} {fs:Array Field} {p q:Prop} [Decidable p] [Decidable q] (hf:P.underlying t=some (.struct (P.fieldsOf t))) (hu:P.underlying t=some (.struct fs)) (hs:P.stoodInHeld t=false) (h:(Op.eqFields 9999 xs ys fs.toList).run P w=.ok (decide q) w) (hpq:q↔p):(Op.equalIn 10000 t (.agg xs) (.agg ys)).run P w=.ok (decide p) w:=by
 rw [run_equalIn_struct w 9999 t _ _ hf hs];rw [hf] at hu;have hfs:=TypeDesc.struct.inj (Option.some.inj hu);rw [hfs,h];simp only [hpq]
theorem eqI {P:Program} {t:TypeId} {q:IntKind} (w:World) (a b:Int) (h:P.underlying t=some (.int q)):(Op.equalIn 9999 t (.int q a) (.int q b)).run P w=.ok (decide (a=b)) w:=by
 rw [run_equalIn_int (P:=P) w 9998 t q q a b h];congr 1
theorem eqS {P:Program} {t:TypeId} (w:World) (a b:List UInt8) (h:P.underlying t=some .string):(Op.equalIn 9999 t (Str a) (Str b)).run P w=.ok (decide (a=b)) w:=by
 have h:=run_equalIn_string (P:=P) w 9998 t ⟨a.toArray⟩ ⟨b.toArray⟩ h;rw [h];congr 1;simp only [ByteArray.toList_mk];by_cases hab:a=b<;>simp [hab]
end Go.Wk
namespace Go.Wk
open Go Go.RowKit
section
variable {P:Program} {α:Type} {rep:Rep α} {Z0 S:Nat→Prop} {w0 w:World} {L:List Rs}
variable {f:FuncId} {n:Nat} {R:Ending→World→Prop} {k:List Item} {e:Env}
variable {ops:Array Oper} {i:Nat} {rest:List Nat} {ty:TypeId} {pos:String} {af:Array Edge} {g:Option (Nat×Bool)}
end
end Go.Wk
namespace Go.Wk
open Go Go.RowKit
section
variable {P:Program} {n:Nat} {K:Act→World→Prop} {e:Env} {w:World} {ops:Array Oper} {S:World→Prop} {fuel:Nat} {listed:Array Bool} {d:Nat} {ty:TypeId} {pos:String} {af:Array Edge} {g:Option (Nat×Bool)}
theorem RB.alloc {t:TypeId} {z:Value} {cs:List Value} (i:Nat) (ho:ops[i]?=some ⟨some d,.alloc t,ty,pos,af,g⟩) (hg:gok e ops g=true) (hn:Nat.blt d n=true) (hz:∀ w,(zeroValue t).run P w=.ok z w) (hc:z.cells=cs.toArray)
 (h:∀ b w',b=w.heap.size→Blk w' b t cs→Ext w w'→S w'∧RG P n K ops S fuel (listed.setIfInBounds i true) ((d,.pointer (some ⟨b,0,none⟩))::e) w'):RB P n K ops S fuel listed i e w:=by
 obtain ⟨h6,h7⟩:=h w.heap.size (w.alloc (.cells cs.toArray t)) rfl (Blk.new w t cs) (Ext.alloc w _);exact RB.one i ho hg rfl hn (V.alloc hz hc) h6 h7
theorem RB.box {t:TypeId} {x:Operand} {v:Value} {cs:List Value} (i:Nat) (ho:ops[i]?=some ⟨some d,.box t x,ty,pos,af,g⟩) (hg:gok e ops g=true) (hn:Nat.blt d n=true) (hx:ev e x=some v) (hc:v.cells=cs.toArray)
 (h:∀ b w',b=w.heap.size→Blk w' b t cs→Ext w w'→S w'∧RG P n K ops S fuel (listed.setIfInBounds i true) ((d,.pointer (some ⟨b,0,none⟩))::e) w'):RB P n K ops S fuel listed i e w:=by
 obtain ⟨h6,h7⟩:=h w.heap.size (w.alloc (.cells cs.toArray t)) rfl (Blk.new w t cs) (Ext.alloc w _);exact RB.one i ho hg rfl hn (V.box hx hc) h6 h7
theorem RB.bslS {t el:TypeId} {s by_:Nat} {ps:List (Nat×Operand)} {m:Nat} {us cs:List Value} (i:Nat) (ho:ops[i]?=some ⟨some d,.buildSlice t m ps.toArray,ty,pos,af,g⟩) (hg:gok e ops g=true) (hn:Nat.blt d n=true)
 (ht:P.underlying t=some (.slice el)) (hel:ElOk P el s by_) (hps:ps.map (·.1)=List.range m) (hx:evs e (ps.map (·.2))=some us) (hl:us.length=m) (hcs:us.flatMap (λu=>u.cells.toList)=cs) (hu:∀ u∈us,u.cells.size=s) (hbig:m*s≤16777216)
 (h:∀ b w',b=w.heap.size→Blk w' b el cs→Ext w w'→S w'∧RG P n K ops S fuel (listed.setIfInBounds i true) ((d,.slice (some ⟨b,0,none⟩) m m)::e) w'):RB P n K ops S fuel listed i e w:=by
 obtain ⟨h6,h7⟩:=h w.heap.size (w.alloc (.cells cs.toArray el)) rfl (Blk.new w el cs) (Ext.alloc w _);refine RB.one i ho hg rfl hn (V.bsl (by simpa using hx) (λw=>?_)) h6 h7;rw [List.toList_toArray,hps,← hcs];exact run_buildSlice ht hel hl hu hbig w
end
end Go.Wk
namespace Go.Wk
open Go Go.RowKit
section
variable {Z0 S:Nat→Prop} {w0 w:World} {L K D M:List Rs}
def CalmL:List Rs→Prop
 | []=>True
 | r::l=>(∀ x,¬r.F x)∧CalmL l
theorem CalmL.mem:∀ {L:List Rs},CalmL L→∀ r∈L,∀ x,¬r.F x
 | _::_,⟨h,hr⟩,r,hm=>by
  rcases List.mem_cons.1 hm with rfl|hm
  ·exact h
  ·exact hr.mem r hm
theorem get3 {i:Nat} {a:Rs} (h:((K++D)++M)[i]?=some a):(i<K.length∧K[i]?=some a)∨a∈D∨(K.length+D.length≤i∧M[i-K.length-D.length]?=some a):=by
 rcases get_app h with h|⟨h1,h2⟩
 ·rcases get_app h with h | ⟨h1,h2⟩
  ·exact .inl ⟨lt_of_get h,h⟩
  ·exact .inr (.inl (List.mem_of_getElem? h2))
 ·refine .inr (.inr ⟨by simpa using h1,?_⟩)
  rw [List.length_append] at h2;rw [Nat.sub_sub];exact h2
theorem Hp.insD (hm:Hp Z0 S w0 w (K++M)) (hD:∀ r∈D,(∀ x,¬r.F x)∧r.H (Zo Z0 S w0 (K++M)) w):Hp Z0 S w0 w ((K++D)++M):=by
 have hz:∀ b,Zo Z0 S w0 (K++M) b→Zo Z0 S w0 ((K++D)++M) b:=λb ⟨h1,h2⟩=>⟨h1,λj r hj hr=>by
  rcases get3 hj with ⟨_,h⟩|h|⟨_,h⟩
  ·exact h2 j r (get_left h) hr
  ·exact (hD r h).1 b hr
  ·exact h2 _ r (get_right h) hr⟩
 have kp:∀ r:Rs,r.H (Zo Z0 S w0 (K++M)) w→r.H (Zo Z0 S w0 ((K++D)++M)) w:=λr h=>r.keep h (λ_ _ _=>rfl) (λ_ _ _=>rfl) λb hb _=>hz b hb
 refine ⟨hm.fr,λi r hi=>?_,λi j a b hij hi hj x hx hb=>?_,λi r hi x hx=>?_⟩
 ·rcases get3 hi with ⟨_,h⟩ | h | ⟨_,h⟩
  ·exact kp r (hm.hs _ r (get_left h))
  ·exact kp r (hD r h).2
  ·exact kp r (hm.hs _ r (get_right h))
 ·rcases get3 hi with ⟨hi1,hi⟩ | hi | ⟨hi1,hi⟩
  ·rcases get3 hj with ⟨hj1,hj⟩ | hj | ⟨hj1,hj⟩
   ·exact hm.ap _ _ a b hij (get_left hi) (get_left hj) x hx hb
   ·exact (hD b hj).1 x hb
   ·exact hm.ap _ _ a b (by omega) (get_left hi) (get_right hj) x hx hb
  ·exact (hD a hi).1 x hx
  ·rcases get3 hj with ⟨hj1,hj⟩ | hj | ⟨hj1,hj⟩
   ·exact hm.ap _ _ a b (by omega) (get_right hi) (get_left hj) x hx hb
   ·exact (hD b hj).1 x hb
   ·exact hm.ap _ _ a b (by omega) (get_right hi) (get_right hj) x hx hb
 ·rcases get3 hi with ⟨_,h⟩ | h | ⟨_,h⟩
  ·exact hm.nw _ r (get_left h) x hx
  ·exact ((hD r h).1 x hx).elim
  ·exact hm.nw _ r (get_right h) x hx
theorem Hp.cutF (hm:Hp Z0 S w0 w L) (k j d:List Nat) (h:(k++(j++d)).all (λi=>Nat.blt i L.length)=true) (hnd:(k++(j++d)).Nodup) (hc:CalmL (pickL L d)):Hp Z0 S w0 w ((pickL L k++pickL L d)++(pickL L j++pickL L d)):=by
 have h1:=hm.cut k (j++d) h hnd;rw [pickL_app] at h1
 refine h1.insD λr hr=>⟨hc.mem r hr,?_⟩
 obtain ⟨q,hq,rfl⟩:=List.getElem_of_mem hr;exact h1.hs _ _ (get_right (get_right (List.getElem?_eq_getElem hq)))
end
end Go.Wk
namespace Go.Wk
open Go Go.RowKit
section
variable {β:Type} {a b:Option β} {r:β} {A B C:Prop}
theorem askD {p:Prop} [Decidable p] (hM:(if p then a else b)=some r) (X:(p→A)→(¬p→B)→C) (ht:p→a=some r→A) (hf:¬p→b=some r→B):C:=X (λh=>ht h (iteT h hM)) (λh=>hf h (iteF h hM))
theorem askS {t:Bool} (hM:(if t=true then a else b)=some r) (X:(t=true→A)→(t=false→B)→C) (ht:t=true→a=some r→A) (hf:t=false→b=some r→B):C:=X (λh=>ht h (iteT h hM)) (λh=>hf h (iteFB hM h))
def AllIn:Env→Env→Prop
 | [],_=>True
 | (t,v)::e,e'=>lk e' t=some v∧AllIn e e'
theorem sb:∀ {e e':Env},AllIn e e'→Sub e e'
 | [],_,_=>Sub.nil _
 | (_,_)::_,_,⟨h,hr⟩=>Sub.cons h (sb hr)
end
abbrev pt (b o:Nat):Value:=.pointer (some ⟨b,o,none⟩)
abbrev iv (z:Int):Value:=.int .i64 z
abbrev u8v (x:UInt8):Value:=.int .u8 ((x.toNat:Nat):Int)
abbrev u64v (x:UInt64):Value:=.int .u64 ((x.toNat:Nat):Int)
end Go.Wk
namespace Go.Wk
open Go Go.RowKit
section
variable {Z0 S:Nat→Prop} {w0 w:World} {L:List Rs} {α:Type} {rep:Rep α}
theorem Own.take {B:Nat} {D:Nat→Prop} {et:TypeId} {A:Option Addr} {c:Nat} {xs:List α} (h:Own B D w et A c rep xs) (k:Nat):Own B D w et A c rep (xs.take k):=by
 obtain ⟨h1,h2,h3⟩:=h;refine ⟨Nat.le_trans (by simp;omega) h1,h2,?_⟩
 rcases h3 with ⟨hA,hc⟩|⟨g,cs,vss,hA,hB,hk,hcl,hlen,hrel,hfl⟩
 ·exact .inl ⟨hA,hc⟩
 ·refine .inr ⟨g,cs,vss.take k,hA,hB,hk,hcl,by simp [hlen],λq vs x hv hx=>?_,?_⟩
  ·rw [List.getElem?_take] at hv hx
   split at hv
   ·rename_i hq;rw [if_pos hq] at hx;exact hrel q vs x hv hx
   ·cases hv
  ·have hl:=lens_of hlen hrel
   have e:(vss.take k).flatten=vss.flatten.take ((vss.take k).length*rep.sz):=by
    have hf:=length_flat rep.sz (vss.take k) (λvs hvs=>hl vs (List.mem_of_mem_take hvs))
    have hs:vss.flatten=(vss.take k).flatten++(vss.drop k).flatten:=by rw [← List.flatten_append,List.take_append_drop]
    rw [hs,← hf,List.take_left]
   have hkl:(vss.take k).length=(xs.take k).length:=by simp [hlen]
   rw [e,← hfl,List.take_take,hkl]
   congr 1
   have:(xs.take k).length*rep.sz≤xs.length*rep.sz:=Nat.mul_le_mul_right _ (by simp;omega)
   omega
variable {P:Program} {f:FuncId} {n:Nat} {R:Ending→World→Prop} {k:List Item} {e:Env} {ops:Array Oper} {i:Nat} {rest:List Nat} {d:Nat} {ty:TypeId} {pos:String} {af:Array Edge} {g:Option (Nat×Bool)}
end
theorem objR_flat {F:Nat→Prop} {P:List Rs→Prop} (h:∀ L,P L→∀ (i:Nat) r,L[i]?=some r→r.Flat):(objR F P).Flat:=
 λZ Z' w ⟨L,h1,h2,h3,h4⟩=>⟨L,h1,h2,λi r hi=>h L h1 i r hi Z Z' w (h3 i r hi),h4⟩
section
variable {α:Type} {rep:Rep α} {Z0 S:Nat→Prop} {w0 w:World} {L:List Rs}
end
section
variable {P:Program} {f:FuncId} {n:Nat} {R:Ending→World→Prop} {k:List Item} {e:Env} {w w0:World} {ops:Array Oper} {i d:Nat} {rest:List Nat} {ty:TypeId} {pos:String} {af:Array Edge} {g:Option (Nat×Bool)} {Z0 S:Nat→Prop} {L:List Rs} {α:Type} {rep:Rep α}
end
end Go.Wk
namespace Go.Wk
open Go Go.RowKit
theorem blkRd {w:World} {b:Nat} {t:TypeId} {cs:List Value} {Z:Nat→Prop} (h:(boxR b t cs).H Z w) (o m:Nat):Rd w b o ((cs.drop o).take m):=by
 have:=(Blk.rd h).sub o m;rwa [Nat.zero_add] at this
end Go.Wk
namespace Go.Wk
open Go Go.RowKit
section
variable {P:Program} {f:FuncId} {n:Nat} {R:Ending→World→Prop} {k:List Item} {e:Env} {w:World} {ops:Array Oper}
variable {K:Act→World→Prop}
end
end Go.Wk
namespace Go.Wk
open Go Go.RowKit
section
variable {P:Program} {n:Nat} {e:Env} {w:World} {dst:Option Nat} {ty:TypeId} {pos:String} {af:Array Edge} {g:Option (Nat×Bool)}
end
end Go.Wk
namespace Go.Wk
open Go Go.RowKit
section
variable {P:Program} {n:Nat} {K:Act→World→Prop} {ops:Array Oper} {S':World→Prop} {fuel:Nat} {listed:Array Bool} {e:Env} {w w0:World} {d:Nat} {ty:TypeId} {pos:String} {af:Array Edge} {g:Option (Nat×Bool)} {Z0 S:Nat→Prop} {L:List Rs} {α:Type} {rep:Rep α}
end
end Go.Wk
namespace Go.Wk
open Go Go.RowKit
section
variable {P:Program} {f:FuncId} {n:Nat} {R:Ending→World→Prop} {k:List Item} {e:Env} {w w0:World} {ops:Array Oper} {i d:Nat} {rest:List Nat} {ty:TypeId} {pos:String} {af:Array Edge} {g:Option (Nat×Bool)} {Z0 S:Nat→Prop} {L:List Rs}
end
theorem lkB {e:Env} {t:Nat} {a b:Value} (h:lk e t=some a) (hab:a=b:=by first | exact andT (by assumption) | exact andF (by assumption) | exact orT (by assumption) | exact orF (by assumption) | exact nandF (by assumption) | exact nandT (by assumption) | exact norT (by assumption) | exact norF (by assumption) | (simp [*];done) | grind):lk e t=some b:=lkv _ h hab
theorem nbl {a b:Nat} (h:Nat.ble a b=true):a≤b:=Nat.le_of_ble_eq_true h
end Go.Wk
set_option linter.unusedVariables false
set_option linter.unusedSimpArgs false
namespace Go.Wk
open Go Go.RowKit
section
variable {P:Program} {f:FuncId} {n:Nat} {R:Ending→World→Prop} {k:List Item} {e:Env} {w w0 w1:World} {ops:Array Oper} {i d:Nat} {rest:List Nat} {ty:TypeId} {pos:String} {af:Array Edge} {g:Option (Nat×Bool)} {Z0 S:Nat→Prop} {L:List Rs}
theorem Rn.a1 {A:Type} {K M:List Rs} {q:FuncId} {xs:List Operand} {ts:Array TypeId} {vs:List Value} {v:A→Value} {M':A→List Rs} (ck:CallOk P q) (hc:Calls P q vs.toArray w λx w'=>∃ a,x=.returned (v a)∧Hp (Zo Z0 S w0 (K++M)) (LS M) w w' (M' a)) (hm:Hp Z0 S w0 w (K++M))
 (h:∀ a w',Hp Z0 S w0 w' (K++M' a)→Rn P f n R (.inRegion ops rest::k) ((d,v a)::e) w')
 (ho:ops[i]?=some ⟨some d,.call { callee:=.value (.func q),args:=xs.toArray,argTypes:=ts },ty,pos,af,g⟩:=by exact rfl) (hg:gok e ops g=true:=by exact rfl) (hn:Nat.blt d n=true:=by exact rfl) (hx:evs e xs=some vs:=by exact rfl):Rn P f n R (.inRegion ops (i::rest)::k) e w:=
 Rn.cl ck ho hg hn hx hc λ_ w' ⟨a,e1,hq⟩=>⟨v a,e1,h a w' (hm.callAZ hq)⟩
end
section
variable {P:Program} {n:Nat} {K:Act→World→Prop} {ops:Array Oper} {S:World→Prop} {fuel:Nat} {listed:Array Bool} {e:Env} {w w1:World} {d:Nat} {ty:TypeId} {pos:String} {af:Array Edge} {g:Option (Nat×Bool)} {o:Oper} {f:FuncId} {k:List Item} {R:Ending→World→Prop}
theorem RH.on {v:Value} {w':World} (i:Nat) (ho:ops[i]?=some o) (hv:OpV P n e w o v w') (hS':S w') (h:RG P n K ops S fuel (listed.setIfInBounds i true) ((d,v)::e) w')
 (hr:Region.ready .any ops listed=[i]:=by kernel_rfl) (hg:gok e ops o.guard=true:=by exact rfl) (hd:o.dst=some d:=by exact rfl) (hn:Nat.blt d n=true:=by exact rfl):RG P n K ops S (fuel+1) listed e w:=RH.one i hr ho hg hd hn hv hS' h
end
end Go.Wk
set_option linter.unusedVariables false
set_option linter.unusedSimpArgs false
namespace Go.Wk
open Go Go.RowKit
section
variable {α:Type} {w:World} {b:Nat}
theorem ar_rd0 {L:List α} (f:α→Value) {o kk:Nat} {z:α} (h:Rd w b o (L.map f)) (hz:L[kk]?=some z):Rd w b (o+kk*1) [f z]:=by
 intro i v hi
 cases i with
 | zero=>
  injection hi with hi
  subst hi;have:=h kk (f z) (by rw [List.getElem?_map,hz];rfl);simpa using this
 | succ i=>simp at hi
theorem ar_set {cs pre post:List Value} {L:List α} (f:α→Value) {off kk:Nat} {v:α} (hc:cs=pre++(L.map f++post)) (ho:off=pre.length) (hk:kk<L.length):setL cs (off+kk*1) [f v]=pre++((L.set kk v).map f++post):=by
 subst hc ho
 have e:pre.length+kk*1=pre.length+kk:=by omega
 rw [e]
 have h1:(pre++(L.map f++post)).set (pre.length+kk) (f v)=pre++((L.set kk v).map f++post):=by
  rw [List.set_append_right _ _ (by omega),show pre.length+kk-pre.length=kk by omega,List.set_append_left _ _ (by simpa using hk),List.map_set]
 simpa [setL] using h1
theorem set4 {a0 a1 a2 a3 v:α} {j:Int} {kk:Nat} (hj:j=(kk:Int)) (hk:kk<4):([a0,a1,a2,a3]:List α).set kk v=[if j=0 then v else a0,if j=1 then v else a1,if j=2 then v else a2,if j=3 then v else a3]:=by
 subst hj
 match kk,hk with
 | 0,_=>rfl
 | 1,_=>rfl
 | 2,_=>rfl
 | 3,_=>rfl
end
end Go.Wk
set_option linter.unusedVariables false
set_option linter.unusedSimpArgs false
namespace Go.Wk
open Go Go.RowKit
section
variable {κ:Type} [DecidableEq κ]
abbrev MsK (κ:Type):=List (κ×Value×Nat)
def entK (kv:κ→Value) (p:κ×Value×Nat):MapEntry:={ key:=kv p.1,val:=p.2.1,born:=p.2.2 }
def MpK (kv:κ→Value) (w:World) (b:Nat) (l:MsK κ) (clock:Nat):Prop:=w.heap[b]?=some (.map (l.map (entK kv)).toArray clock)
def lookMK (l:MsK κ) (key:κ):Option Value:=(l.find? λp=>decide (p.1=key)).map (·.2.1)
def putMK (key:κ) (v:Value) (clock:Nat):MsK κ→MsK κ
 | []=>[(key,v,clock)]
 | p::r=>if p.1=key then (key,v,p.2.2)::r else p::putMK key v clock r
def goMK (key:κ):MsK κ→Nat→Option (Nat×Value)
 | [],_=>none
 | p::r,i=>if p.1=key then some (i,p.2.1) else goMK key r (i+1)
variable {kv:κ→Value} {w w':World} {P:Program}
theorem MpK.lt {ι:Type} {kv':ι→Value} {b:Nat} {l:MsK ι} {c:Nat} (h:MpK kv' w b l c):b<w.heap.size:=by
 rcases Nat.lt_or_ge b w.heap.size with hlt|hge
 ·exact hlt
 ·unfold MpK at h;rw [Array.getElem?_eq_none hge] at h;cases h
theorem MpK.fr {ι:Type} {kv':ι→Value} {S:Nat→Prop} {b:Nat} {l:MsK ι} {c:Nat} (h:MpK kv' w b l c) (hf:Fr S w w') (hn:¬S b):MpK kv' w' b l c:=(hf.keep b h.lt hn).trans h
theorem goMK_look (key:κ):∀ (l:MsK κ) (i:Nat),(goMK key l i).map (·.2)=lookMK l key
 | [],_=>rfl
 | p::r,i=>by
  by_cases h:p.1=key
  ·simp [goMK,lookMK,h]
  ·simp only [goMK,h,if_false,goMK_look key r,lookMK,List.find?_cons,decide_false]
theorem putMK_none (key:κ) (v:Value) (c:Nat):∀ (l:MsK κ) (i:Nat),goMK key l i=none→((l.map (entK kv)).toArray.push { key:=kv key,val:=v,born:=c })=((putMK key v c l).map (entK kv)).toArray
 | [],_,_=>rfl
 | p::r,i,h=>by
  by_cases hp:p.1=key
  ·simp [goMK,hp] at h
  ·simp only [goMK,hp,if_false] at h
   have ih:=congrArg Array.toList (putMK_none key v c r (i+1) h)
   apply Array.ext'
   simp only [Array.toList_push,List.map_cons,putMK,hp,if_false,List.cons_append] at ih ⊢;rw [ih]
structure KeyOk (P:Program) (kt:TypeId) (kv:κ→Value):Prop where
 ck:∀ (b:Bool) (a:κ) (w:World),(Instr.checkKey b 10000 kt (kv a)).run P w=.ok () w
 fk:∀ (key:κ) (l:MsK κ) (w:World),(Instr.findKey kt (kv key) (l.map (entK kv))).run P w=.ok (goMK key l 0) w
 st:∀ (a:κ) (w:World),(Instr.keyThatStays (kv a) (kv a)).run P w=.ok (kv a) w
theorem findAsking_goMK {kt:TypeId} (he:∀ (a b:κ) (w:World),(Op.equal kt (kv a) (kv b)).run P w=.ok (decide (a=b)) w) (key:κ):∀ (l:MsK κ) (i:Nat) (w:World),(Instr.findAsking kt (kv key) (l.map (entK kv)) i).run P w=.ok (goMK key l i) w
 | [],i,w=>rfl
 | p::r,i,w=>by
  simp only [List.map_cons,Instr.findAsking,Sem.run_bind,entK,he key p.1 w,Result.andThen_ok]
  by_cases h:p.1=key
  ·simp [goMK,h]
  ·have h':¬key=p.1:=λe=>h e.symm
   simp only [goMK,h,h',decide_false,if_false];exact findAsking_goMK he key r (i+1) w
theorem findKey_ask {kt:TypeId} {kd:TypeDesc} (hu:P.underlying kt=some kd) (hn:∀ a b:κ,Instr.sameNow kd (kv a) (kv b)=none) (he:∀ (a b:κ) (w:World),(Op.equal kt (kv a) (kv b)).run P w=.ok (decide (a=b)) w) (key:κ) (l:MsK κ) (w:World) :
 (Instr.findKey kt (kv key) (l.map (entK kv))).run P w=.ok (goMK key l 0) w:=by
 simp only [Instr.findKey,Sem.run_bind,run_underlying hu,Result.andThen_ok]
 cases l with
 | nil=>rfl
 | cons p r=>
  have:Instr.findNow kd (kv key) ((p::r).map (entK kv)) 0=none:=by simp [Instr.findNow,entK,hn]
  rw [this];exact findAsking_goMK he key (p::r) 0 w
end
section
variable {κ:Type} [DecidableEq κ] {kv:κ→Value} {P:Program} {f:FuncId} {n:Nat} {R:Ending→World→Prop} {k:List Item} {e:Env} {w w':World}
variable {ops:Array Oper} {i:Nat} {rest:List Nat} {d:Nat} {dst:Option Nat} {ty:TypeId} {pos:String} {af:Array Edge} {g:Option (Nat×Bool)}
theorem run_getObjK {ι:Type} {kv':ι→Value} {b:Nat} {l:MsK ι} {c:Nat} (h:MpK kv' w b l c):(getObj b).run P w=.ok (.map (l.map (entK kv')).toArray c) w:=by
 unfold MpK at h;simp [getObj,Sem.run,h]
theorem run_setObjK {ι:Type} {kv':ι→Value} {b:Nat} {l:MsK ι} {c:Nat} (h:MpK kv' w b l c) (o:Obj):(setObj b o).run P w=.ok () { w with heap:=w.heap.setIfInBounds b o }:=by
 unfold MpK at h;simp [setObj,Sem.run,h]
theorem MpK.set {ι:Type} {kv':ι→Value} {b:Nat} {l:MsK ι} {c:Nat} (h:MpK kv' w b l c) (l':MsK ι) (c':Nat):MpK kv' { w with heap:=w.heap.setIfInBounds b (.map (l'.map (entK kv')).toArray c') } b l' c'∧Fr (λx=>x=b) w { w with heap:=w.heap.setIfInBounds b (.map (l'.map (entK kv')).toArray c') }:=by
 have hlt:=h.lt;refine ⟨?_,rfl,rfl,rfl,by simp,λx hx hn=>?_⟩
 ·unfold MpK;simp [Array.getElem?_setIfInBounds,hlt]
 ·rw [Array.getElem?_setIfInBounds_ne (Ne.symm hn)]
theorem V.lkpK {t kt et:TypeId} {x y:Operand} {b c:Nat} {l:MsK κ} {key:κ} {z:Value} (hK:KeyOk P kt kv) (ht:P.underlying t=some (.map kt et)) (hz:∀ w,(zeroValue et).run P w=.ok z w) (hx:ev e x=some (.map (some b))) (hy:ev e y=some (kv key)) (hM:MpK kv w b l c) :
 OpV P n e w ⟨dst,.lookup t x y false,ty,pos,af,g⟩ ((lookMK l key).getD z) w:=λa hf=>by
 have hl:=goMK_look key l 0;have hfk:=hK.fk key l w;simp only [execOp,ev_eval hf hx,ev_eval hf hy,Instr.lookup,Sem.run_bind,run_underlying ht,Result.andThen_ok,run_getObjK hM,Sem.run_pure,hK.ck,List.toList_toArray,hfk]
 cases h:goMK key l 0 with
 | none=>rw [h] at hl;simp [hz,← hl]
 | some p=>rw [h] at hl;simp [← hl]
end
end Go.Wk
set_option linter.unusedVariables false
set_option linter.unusedSimpArgs false
namespace Go.Wk
open Go Go.RowKit
section
variable {Z0 S:Nat→Prop} {w0 w w':World} {L L':List Rs}
theorem zo_perm (h:L.Perm L') {b:Nat} (hb:Zo Z0 S w0 L b):Zo Z0 S w0 L' b:=⟨hb.1,λi r hi=>by
 obtain ⟨j,hj⟩:=List.mem_iff_getElem?.1 (h.mem_iff.2 (List.mem_of_getElem? hi))
 exact hb.2 j r hj⟩
theorem Hp.perm (hm:Hp Z0 S w0 w L) (h:L.Perm L'):Hp Z0 S w0 w L':=by
 have hmem:∀ {i:Nat} {r:Rs},L'[i]?=some r→∃ j,L[j]?=some r:=λhi=>List.mem_iff_getElem?.1 (h.mem_iff.2 (List.mem_of_getElem? hi))
 refine ⟨hm.fr,λi r hi=>?_,?_,λi r hi=>?_⟩
 ·obtain ⟨j,hj⟩:=hmem hi
  exact r.keep (hm.hs j r hj) (λ_ _ _=>rfl) (λ_ _ _=>rfl) λb hb _=>zo_perm h hb
 ·have hp:L.Pairwise λa b=>∀ x,a.F x→¬b.F x:=by
   rw [List.pairwise_iff_getElem];intro i j hi hj hij;exact hm.ap i j _ _ (by omega) (List.getElem?_eq_getElem hi) (List.getElem?_eq_getElem hj)
  have hp':=(h.pairwise_iff (fun {a b} hab x hb ha=>hab x ha hb)).1 hp;rw [List.pairwise_iff_getElem] at hp';intro i j a b hij hi hj x ha hb;obtain ⟨hi',ea⟩:=List.getElem?_eq_some_iff.1 hi;obtain ⟨hj',eb⟩:=List.getElem?_eq_some_iff.1 hj
  rcases Nat.lt_or_gt_of_ne hij with hlt|hgt
  ·exact hp' i j hi' hj' hlt x (by rw [ea];exact ha) (by rw [eb];exact hb)
  ·exact hp' j i hj' hi' hgt x (by rw [eb];exact hb) (by rw [ea];exact ha)
 ·obtain ⟨j,hj⟩:=hmem hi
  exact hm.nw j r hj
end
section
variable {κ α:Type} [DecidableEq κ]
def mbR (kv:κ→Value) (b:Nat) (ms:MsK κ) (c:Nat):Rs where
 F:=λx=>x=b
 H:=λ_ w=>MpK kv w b ms c
 keep:=fun {_ _ w _} h hF _ _=>by have:=hF b rfl h.lt;unfold MpK at h ⊢;rw [this];exact h
 lt:=λh b hb=>hb▸h.lt
structure Eo (κ α:Type) where
 key:κ
 A:Option Addr
 c:Nat
 xs:List α
def EsRep:MsK κ→List (Eo κ α)→Prop
 | [],[]=>True
 | m::ms,e::es=>(m.1=e.key∧m.2.1=.slice e.A e.xs.length e.c)∧EsRep ms es
 | _,_=>False
abbrev Ko (κ α:Type):=List (κ×List α)
def lookO (key:κ) (ps:Ko κ α):List α:=((ps.find? λp=>decide (p.1=key)).map (·.2)).getD []
def putO (key:κ) (xs:List α):Ko κ α→Ko κ α
 | []=>[(key,xs)]
 | p::r=>if p.1=key then (key,xs)::r else p::putO key xs r
abbrev plE (es:List (Eo κ α)):Ko κ α:=es.map λe=>(e.key,e.xs)
abbrev owE (el:TypeId) (rep:Rep α) (es:List (Eo κ α)):List Rs:=es.map λe=>ownR el e.A e.c rep e.xs
structure MoA (ms:MsK κ) (c:Nat) (es:List (Eo κ α)) (ps:Ko κ α):Prop where
 rp:EsRep ms es
 pl:plE es=ps
 nd:(ps.map (·.1)).Nodup
 born:∀ p∈ms,p.2.2<c
 bnd:(ms.map (·.2.2)).Nodup
def mapO (F:Nat→Prop) (kv:κ→Value) (el:TypeId) (rep:Rep α) (b:Nat) (ps:Ko κ α):Rs:=
 objR F λM=>∃ ms c es,M=mbR kv b ms c::owE el rep es∧MoA ms c es ps
theorem EsRep.keys {ι:Type}:∀ {ms:MsK ι} {es:List (Eo ι α)},EsRep ms es→ms.map (·.1)=es.map (·.key)
 | [],[],_=>rfl
 | _::_,_::_,⟨h1,h2⟩=>by simp [h1.1,h2.keys]
 | _::_,[],h0 | [],_::_,h0=>h0.elim
theorem EsRep.look (key:κ):∀ {ms:MsK κ} {es:List (Eo κ α)},EsRep ms es→(lookMK ms key=none∧key ∉ es.map (·.key))∨∃ es1 e es2,es=es1++e::es2∧e.key=key∧key ∉ es1.map (·.key)∧lookMK ms key=some (.slice e.A e.xs.length e.c)
 | [],[],_=>.inl ⟨rfl,by simp⟩
 | m::ms,e::es,⟨h1,h2⟩=>by
  by_cases hk:e.key=key
  ·exact .inr ⟨[],e,es,rfl,hk,by simp,by simp [lookMK,h1.1,h1.2,hk]⟩
  ·have e1:lookMK (m::ms) key=lookMK ms key:=by simp [lookMK,h1.1,hk]
   rcases h2.look key with ⟨h3,h4⟩|⟨es1,x,es2,h3,h4,h5,h6⟩
   ·exact .inl ⟨e1.trans h3,by simp [Ne.symm hk];simpa using h4⟩
   ·exact .inr ⟨e::es1,x,es2,by rw [h3];rfl,h4,by simp [Ne.symm hk];simpa using h5,e1.trans h6⟩
 | _::_,[],h0 | [],_::_,h0=>h0.elim
theorem look_pl (key:κ):∀ (es1:List (Eo κ α)) (e:Eo κ α) (es2:List (Eo κ α)),e.key=key→key ∉ es1.map (·.key)→lookO key (plE (es1++e::es2))=e.xs
 | [],e,es2,h,_=>by simp [lookO,h]
 | a::es1,e,es2,h,hn=>by
  have ha:¬a.key=key:=λhh=>hn (by simp [hh])
  have:=look_pl key es1 e es2 h (λhh=>hn (by simp at hh ⊢;exact .inr hh));unfold lookO at this ⊢;simpa [ha] using this
theorem look_no (key:κ):∀ (es:List (Eo κ α)),key ∉ es.map (·.key)→lookO key (plE es)=[]
 | [],_=>rfl
 | a::es,hn=>by
  have ha:¬a.key=key:=λhh=>hn (by simp [hh])
  have:=look_no key es (λhh=>hn (by simp at hh ⊢;exact .inr hh));unfold lookO at this ⊢;simpa [ha] using this
end
section
variable {κ α:Type} [DecidableEq κ] {Z0 S:Nat→Prop} {w0 w:World} {K L:List Rs} {kv:κ→Value} {el:TypeId} {rep:Rep α} {b:Nat} {ps:Ko κ α} {F:Nat→Prop}
theorem plE_keys {ι:Type} (es:List (Eo ι α)):(plE es).map (·.1)=es.map (·.key):=by simp
theorem put_new {key:κ} {cl:Nat} {e':Eo κ α}:∀ {es:List (Eo κ α)} {ms:MsK κ},EsRep ms es→e'.key=key→key ∉ es.map (·.key) →
 EsRep (putMK key (.slice e'.A e'.xs.length e'.c) cl ms) (es++[e'])∧(putMK key (.slice e'.A e'.xs.length e'.c) cl ms).map (·.2.2)=ms.map (·.2.2)++[cl]
 | [],[],_,hk',_=>⟨⟨⟨hk'.symm,rfl⟩,trivial⟩,rfl⟩
 | a::es,m::ms,⟨h1,h2⟩,hk',hn=>by
  have hm:¬m.1=key:=λhh=>hn (by simp [← h1.1,hh])
  obtain ⟨r1,r2⟩:=put_new (cl:=cl) (e':=e') h2 hk' (λhh=>hn (by simp at hh ⊢;exact .inr hh));simp only [putMK,if_neg hm,List.cons_append,List.map_cons,r2];exact ⟨⟨h1,r1⟩,trivial⟩
 | [],_::_,h0,_,_ | _::_,[],h0,_,_=>h0.elim
theorem pl_put {key:κ} {e':Eo κ α}:∀ {es1:List (Eo κ α)} {e:Eo κ α} {es2:List (Eo κ α)},e.key=key→e'.key=key→key ∉ es1.map (·.key)→plE (es1++e'::es2)=putO key e'.xs (plE (es1++e::es2))
 | [],e,es2,hk,hk',_=>by simp [putO,hk,hk']
 | a::es1,e,es2,hk,hk',hn=>by
  have ha:¬a.key=key:=λhh=>hn (by simp [hh])
  have:=pl_put (e':=e') (es2:=es2) hk hk' (λhh=>hn (by simp at hh ⊢;exact .inr hh));simp only [List.cons_append,List.map_cons,putO,if_neg ha];rw [← this]
theorem pl_new {key:κ} {e':Eo κ α}:∀ {es:List (Eo κ α)},e'.key=key→key ∉ es.map (·.key)→plE (es++[e'])=putO key e'.xs (plE es)
 | [],hk',_=>by simp [putO,hk']
 | a::es,hk',hn=>by
  have ha:¬a.key=key:=λhh=>hn (by simp [hh])
  have:=pl_new (e':=e') hk' (λhh=>hn (by simp at hh ⊢;exact .inr hh));simp only [List.cons_append,List.map_cons,putO,if_neg ha];rw [← this]
theorem putO_keys (key:κ) (xs:List α):∀ (ps:Ko κ α),(∀ q∈(putO key xs ps).map (·.1),q=key∨q∈ps.map (·.1))∧((ps.map (·.1)).Nodup→((putO key xs ps).map (·.1)).Nodup)
 | []=>by simp [putO]
 | p::r=>by
  by_cases hk:p.1=key
  ·simp only [putO,if_pos hk,List.map_cons]
   refine ⟨λq h=>?_,λh=>?_⟩
   ·rcases List.mem_cons.1 h with h | h
    ·exact .inl h
    ·exact .inr (List.mem_cons_of_mem _ h)
   ·rw [List.nodup_cons] at h ⊢;rw [hk] at h;exact h
  ·simp only [putO,if_neg hk,List.map_cons]
   obtain ⟨h1,h2⟩:=putO_keys key xs r;refine ⟨λq h=>?_,λh=>?_⟩
   ·rcases List.mem_cons.1 h with h | h
    ·exact .inr (by rw [h];exact List.mem_cons_self)
    ·exact (h1 q h).imp id λh=>List.mem_cons_of_mem _ h
   ·rw [List.nodup_cons] at h ⊢
    exact ⟨λhm=>(h1 _ hm).elim hk h.1,h2 h.2⟩
theorem stamps_put {ι:Type} {ms ms':MsK ι} {c c':Nat} (hb:∀ p∈ms,p.2.2<c) (hn:(ms.map (·.2.2)).Nodup) (h:(ms'.map (·.2.2)=ms.map (·.2.2)∧c'=c)∨(ms'.map (·.2.2)=ms.map (·.2.2)++[c]∧c'=c+1)):(∀ p∈ms',p.2.2<c')∧(ms'.map (·.2.2)).Nodup:=by
 have hbs:∀ x∈ms.map (·.2.2),x<c:=λx hx=>by obtain ⟨p,hp,rfl⟩:=List.mem_map.1 hx;exact hb p hp
 have hm:∀ p∈ms',p.2.2∈ms'.map (·.2.2):=λp hp=>List.mem_map_of_mem hp
 rcases h with ⟨h1,rfl⟩|⟨h1,rfl⟩
 ·exact ⟨λp hp=>hbs _ (h1▸hm p hp),h1▸hn⟩
 ·refine ⟨λp hp=>?_,?_⟩
  ·have:=hm p hp
   rw [h1] at this
   rcases List.mem_append.1 this with h2|h2
   ·have:=hbs _ h2;omega
   ·simp at h2;omega
  ·rw [h1,List.nodup_append]
   exact ⟨hn,by simp,λa ha b' hb' hab=>by simp at hb';have:=hbs a ha;omega⟩
end
section
variable {κ α:Type} [DecidableEq κ] {Z0 S:Nat→Prop} {w0 w:World} {K L:List Rs} {kv:κ→Value} {el:TypeId} {rep:Rep α} {b:Nat} {ps:Ko κ α} {F:Nat→Prop}
variable {P:Program} {f:FuncId} {n:Nat} {R:Ending→World→Prop} {k:List Item} {e:Env} {ops:Array Oper} {i:Nat} {rest:List Nat} {ty:TypeId} {pos:String} {af:Array Edge} {g:Option (Nat×Bool)}
theorem Rn.mkMO {ι:Type} {t:TypeId} {d:Nat} (kv':ι→Value) (el:TypeId) (rep:Rep α) (hm:Hp Z0 S w0 w L) (ho:ops[i]?=some ⟨some d,.makeMap t none,ty,pos,af,g⟩) (hg:gok e ops g=true) (hn:Nat.blt d n=true)
 (h:∀ F b w',Hp Z0 S w0 w' (L++[mapO F kv' el rep b []])→Rn P f n R (.inRegion ops rest::k) ((d,.map (some b))::e) w'):Rn P f n R (.inRegion ops (i::rest)::k) e w:=by
 refine Rn.mkM ho hg hn λb w' hb hM hE=>?_
 have h1:Hp Z0 S w0 w' (L++[mbR kv' b [] 0]):=hm.add _ hE (λx hx=>by
  have hx':x=b:=hx
  omega) λ_ _=>hM
 obtain ⟨F',h2⟩:=Hp.fold (λM=>∃ ms c es,M=mbR kv' b ms c::owE el rep es∧MoA ms c es ([]:Ko ι α)) h1 ⟨[],0,[],rfl,trivial,rfl,by simp,by simp,by simp⟩;exact h F' b w' h2
end
end Go.Wk
set_option linter.unusedVariables false
set_option linter.unusedSimpArgs false
namespace Go.Wk
open Go Go.RowKit
theorem bytes_same (l:List UInt8):((⟨l.toArray⟩:ByteArray)==⟨l.toArray⟩)=true:=by rw [beq_toListBytes];simp
section
variable {P:Program} {f:FuncId} {n:Nat} {R:Ending→World→Prop} {k:List Item} {e:Env} {w:World} {ops:Array Oper} {n0:Nat}
def treeB (ops:Array Oper) (n0:Nat):Bool:=(List.range ops.size).all λt=>decide (t≤n0)||(List.range t).any λj=>decide (n0≤j)&&Region.waitsFor .any ops t j
theorem Far.tailWaits2 {l l':Array Bool} (hs:Region.sinkB .any ops n0=true) (hc:treeB ops n0=true) (hn:n0<ops.size) (F:Far ops n0 l l') :
 ∀ (d i:Nat),n0-i=d→i<n0→l.getD i true=false→∀ t,n0≤t→t ∉ Region.ready .any ops l:=by
 have inv:=F.inv;intro d
 induction d using Nat.strongRecOn with
 | _ d ih=>
  intro i hd hi hun t ht hr;obtain ⟨_,ot,hot,hall⟩:=mem_ready.1 hr;have htlt:t<ops.size:=(Array.getElem?_eq_some_iff.1 hot).1
  by_cases htn:t=n0
  ·subst htn
   have h1:=List.all_eq_true.1 hs i (List.mem_range.2 hi);obtain ⟨j,hj,hj2⟩:=List.any_eq_true.1 h1;simp only [Bool.and_eq_true,decide_eq_true_eq] at hj2;obtain ⟨oj,hoj,e,he,hb,hon⟩:=Region.waitsFor_spec hj2.2
   have hjle:j≤t:=by have:=List.mem_range.1 hj;omega
   by_cases hjt:j=t
   ·subst hjt
    have:oj=ot:=Option.some.inj (hoj.symm.trans hot);subst this;have h2:=hall e he hb;rw [hon,getD_both hun] at h2
    cases h2
   ·cases hl:l.getD j false with
    | true=>
     have h2:=inv.closed j oj hoj hl e he hb;rw [hon,getD_both hun] at h2
     cases h2
    | false=>
     have hjs:j<l.size:=by rw [inv.size];omega
     exact ih (t-j) (by omega) j rfl (by omega) (getD_in hjs hl) t (Nat.le_refl _) hr
  ·have h1:=List.all_eq_true.1 hc t (List.mem_range.2 htlt)
   simp only [Bool.or_eq_true,decide_eq_true_eq] at h1
   rcases h1 with h1|h1
   ·omega
   ·obtain ⟨j,hj,hj2⟩:=List.any_eq_true.1 h1
    simp only [Bool.and_eq_true,decide_eq_true_eq] at hj2;have hjt:j<t:=List.mem_range.1 hj;obtain ⟨o',ho',e,he,hb,hon⟩:=Region.waitsFor_spec hj2.2;have:o'=ot:=Option.some.inj (ho'.symm.trans hot);subst this;have h2:=hall e he hb;rw [hon,getD_both (inv.tail j hj2.1 (by omega))] at h2
    cases h2
theorem headJ_go {Q:Exit→Act→World→Prop} {K:Act→World→Prop} {S:World→Prop} (hn:n0<ops.size) (hs:Region.sinkB .any ops n0=true) (hc:treeB ops n0=true)
 (hd:(List.range n0).all (λi=>match ops[i]? with | some o=>o.after.all λed=>!Region.binds .any ed||Nat.blt ed.on i | none=>false)=true)
 (hg:(List.range n0).all (λi=>match ops[i]? with | some o=>(match o.guard with | some (j,_)=>Nat.blt j n0 | none=>true) | none=>false)=true)
 (hK:∀ a w,K a w→wpAny P .any ops Q (ops.size-n0) (hd0 ops n0) a w) :
 ∀ (fu:Nat) (l l':Array Bool) (a:Act) (w:World),Far ops n0 l l'→wpAnyH P .any (hdOps ops n0) (QK K) S fu l' a w→wpAny P .any ops Q (fu+(ops.size-n0)) l a w:=by
 intro fu
 induction fu with
 | zero=>
  intro l l' a w F h;rw [Nat.zero_add,F.all hn hd h.1];exact hK a w h.2.2
 | succ fu ih=>
  intro l l' a w F h
  by_cases hr:Region.ready .any (hdOps ops n0) l'=[]
  ·rw [F.all hn hd hr]
   exact wpAny_add _ _ _ _ _ (hK a w (h.1 hr).2)
  ·obtain ⟨i0,hi0⟩:∃ i0,i0∈Region.ready .any (hdOps ops n0) l':=List.exists_mem_of_ne_nil _ hr
   have hi0n:i0<n0:=by
    obtain ⟨_,o,ho,_⟩:=mem_ready.1 hi0;obtain ⟨hlt,_⟩:=Array.getElem?_eq_some_iff.1 ho;rw [hdOps_size hn] at hlt;exact hlt
   have hr0:=(F.ready hn hd hi0n).2 hi0;have hun:=(mem_ready.1 hr0).1;rw [show fu+1+(ops.size-n0)=(fu+(ops.size-n0))+1 by omega];refine ⟨λh0=>(by rw [h0] at hr0;cases hr0),λi hi=>?_⟩
   have hin:i<n0:=by
    rcases Nat.lt_or_ge i n0 with h1|h1
    ·exact h1
    ·exact absurd hi (F.tailWaits2 hs hc hn _ i0 rfl hi0n hun i h1)
   have hi':=(F.ready hn hd hin).1 hi;refine wpOp_head (hdOps_get hn hin) (λo ho=>?_) (λa' w' h3=>ih _ _ a' w' (F.set hin hi) h3.2) (h.2 i hi');have hgi:=List.all_eq_true.1 hg i (List.mem_range.2 hin);rw [ho] at hgi;dsimp only at hgi;unfold Region.wanted
   cases hgd:o.guard with
   | none=>rfl
   | some q=>
    obtain ⟨j,b⟩:=q;rw [hgd] at hgi
    have hj:j<n0:=by simpa [Nat.blt_eq] using hgi
    have hy:yielded (hdOps ops n0) a.tmps j=yielded ops a.tmps j:=by unfold yielded;rw [hdOps_get hn hj]
    simp only [hy]
def headJB (ops:Array Oper) (n0:Nat):Bool:=Nat.blt n0 ops.size&&Region.sinkB .any ops n0&&treeB ops n0 &&
 ((List.range n0).all λi=>match ops[i]? with | some o=>o.after.all λed=>!Region.binds .any ed||Nat.blt ed.on i | none=>false) &&
 ((List.range n0).all λi=>match ops[i]? with | some o=>(match o.guard with | some (j,_)=>Nat.blt j n0 | none=>true) | none=>false)
theorem Rn.drawJ {id:Nat} {Z0 S':Nat→Prop} {w0:World} {L:List Rs} (n0:Nat) (hm':P.follows .mixedOrders=true) (hm:Hp Z0 S' w0 w L) (hB:headJB ops n0=true)
 (h:∀ w1,Hp Z0 S' w0 w1 L→RG P n (KT P f R k ops n0) (hdOps ops n0) (λw'=>Ext w1 w') n0 (Array.replicate n0 false) e w1):Rn P f n R (.code (.region id ops true)::k) e w:=by
 intro b tm cs h1 h2 h3;simp only [headJB,Bool.and_eq_true] at hB;obtain ⟨⟨⟨⟨hn,hs⟩,hc⟩,hd⟩,hg⟩:=hB
 have hn:n0<ops.size:=by simpa [Nat.blt_eq] using hn
 have h4:=h w.drew (hm.ext (Ext.drew w)) ⟨tm,[]⟩ rfl h3 (Ext.refl _)
 have F:Far ops n0 (Array.replicate ops.size false) (Array.replicate n0 false):=by
  refine ⟨by simp,by simp,λi hi=>?_,λt _ ht=>?_,λj oj _ hl=>(by rw [getD_replicate_false] at hl;cases hl)⟩
  ·have:i<ops.size:=by omega
   simp [hi,this]
  ·simp [ht]
 have H:=headJ_go (Q:=QQ P f R k) hn hs hc hd hg (λa w hK=>hK) n0 _ _ _ _ F h4;rw [show n0+(ops.size-n0)=ops.size by omega] at H;have h5:=wp_region_any (id:=id) hm' H;obtain ⟨x,a',w',⟨rfl,hR⟩,harr⟩:=h5 b k cs;obtain ⟨x,w2,fr,hR2,hc,q⟩:=hR b cs h1 h2;exact ⟨x,w2,fr,hR2,Comes.of_steps harr hc,q⟩
end
section
variable {κ:Type} [DecidableEq κ] {kv:κ→Value} {w w':World} {P:Program}
theorem modify_self' {α:Type} (l:List α) (i:Nat) (f:α→α) (a:α) (h:l[i]?=some a) (hf:f a=a):l.modify i f=l:=by
 apply List.ext_getElem?
 intro j;rw [List.getElem?_modify]
 by_cases h':i=j
 ·subst h';simp [h,hf]
 ·simp [h']
def setMK (i:Nat) (v:Value) (l:MsK κ):MsK κ:=l.modify i λm=>(m.1,v,m.2.2)
theorem setMK_arr {ι:Type} {kv':ι→Value} (i:Nat) (v:Value) (l:MsK ι):((l.map (entK kv')).toArray.modify i λe=>{ e with val:=v })=((setMK i v l).map (entK kv')).toArray:=by
 apply Array.ext'
 simp only [Array.toList_modify,setMK]
 apply List.ext_getElem?
 intro j;simp only [List.getElem?_modify,List.getElem?_map]
 by_cases h':i=j
 ·subst h';cases l[i]?<;>simp [entK]
 ·simp [h']
theorem setMK_st {ι:Type} (i:Nat) (v:Value) (l:MsK ι):(setMK i v l).map (·.2.2)=l.map (·.2.2):=by
 apply List.ext_getElem?
 intro j;simp only [setMK,List.getElem?_map,List.getElem?_modify]
 by_cases h':i=j
 ·subst h';cases l[i]?<;>simp
 ·simp [h']
theorem find_stamp {ι:Type} {kv':ι→Value} {l:MsK ι} (hn:(l.map (·.2.2)).Nodup) {i st:Nat} (h:(l[i]?).map (·.2.2)=some st):(l.map (entK kv')).toArray.findIdx? (λe=>(e.born:Int)==(st:Int))=some i:=by
 obtain ⟨m,hm,hs⟩:=Option.map_eq_some_iff.1 h;obtain ⟨hi,rfl⟩:=List.getElem?_eq_some_iff.1 hm;rw [List.findIdx?_toArray,List.findIdx?_eq_some_iff_getElem];refine ⟨by simpa using hi,by simp [entK,hs],λj hj=>?_⟩
 have hj':j<l.length:=by omega
 simp only [List.getElem_map,entK,beq_iff_eq,Int.ofNat_inj];intro hh;have:=(List.pairwise_iff_getElem.1 hn) j i (by simpa using hj') (by simpa using hi) hj;simp [hs,hh] at this
theorem run_goInt (st:Nat):(asInt (goInt st)).run P w=.ok (st:Int) w:=by simp [goInt,asInt,asIntOf]
theorem entryStoreK_run {ι:Type} {kv':ι→Value} {t:TypeId} {b c i st:Nat} {l:MsK ι} (v:Value) (hM:MpK kv' w b l c) (hn:(l.map (·.2.2)).Nodup) (hi:(l[i]?).map (·.2.2)=some st) :
 ∃ w',(Instr.entryStore t (.map (some b)) (.int .i64 st) v).run P w=.ok () w'∧MpK kv' w' b (setMK i v l) c∧Fr (λx=>x=b) w w':=by
 obtain ⟨h1,h2⟩:=hM.set (setMK i v l) c;refine ⟨_,?_,h1,h2⟩;have h3:=run_goInt (P:=P) (w:=w) st;simp only [goInt] at h3;simp only [Instr.entryStore,Sem.run_bind,Result.andThen_ok,run_getObjK hM,h3,find_stamp hn hi];rw [setMK_arr];exact run_setObjK hM _
theorem mapEntryK_some {t kt et:TypeId} {b c j:Nat} {l:MsK κ} {m:κ×Value×Nat} {v:Value} (hK:KeyOk P kt kv) (key:κ) (ht:P.underlying t=some (.map kt et)) (hM:MpK kv w b l c)
 (hg:goMK key l 0=some (j,v)) (hm:l[j]?=some m) (hk:m.1=key) :
 ∃ w',(Instr.mapEntry t (.map (some b)) (kv key)).run P w=.ok (.tuple #[v,.int .i64 m.2.2]) w'∧MpK kv w' b l c∧Fr (λx=>x=b) w w':=by
 obtain ⟨h1,h2⟩:=hM.set l c;refine ⟨_,?_,h1,h2⟩;have hfk:=hK.fk key l w;rw [hg] at hfk
 have hj:(l.map (entK kv)).toArray[j]?=some (entK kv m):=by simp [hm]
 have hkey:(((l.map (entK kv)).toArray[j]?).map (·.key)).getD (kv key)=kv key:=by simp [hm,entK,hk]
 have hb:(((l.map (entK kv)).toArray[j]?).map λx=>(x.born:Int)).getD 0=(m.2.2:Int):=by simp [hm,entK]
 have hmod:((l.map (entK kv)).toArray.modify j λe=>{ e with key:=kv key })=(l.map (entK kv)).toArray:=by
  apply Array.ext'
  simp only [Array.toList_modify];exact modify_self' _ _ _ (entK kv m) (by simp [hm]) (by simp [entK,hk])
 simp only [Instr.mapEntry,Sem.run_bind,run_underlying ht,Result.andThen_ok,run_getObjK hM,hK.ck,List.toList_toArray,hfk,hkey,hK.st,hmod,hb,run_setObjK hM,Sem.run_pure,goInt]
theorem mapEntryK_none {t kt et:TypeId} {b c:Nat} {l:MsK κ} {z:Value} (hK:KeyOk P kt kv) (key:κ) (ht:P.underlying t=some (.map kt et)) (hz:∀ w,(zeroValue et).run P w=.ok z w) (hM:MpK kv w b l c)
 (hg:goMK key l 0=none) :
 ∃ w',(Instr.mapEntry t (.map (some b)) (kv key)).run P w=.ok (.tuple #[z,.int .i64 c]) w'∧MpK kv w' b (putMK key z c l) (c+1)∧Fr (λx=>x=b) w w':=by
 obtain ⟨h1,h2⟩:=hM.set (putMK key z c l) (c+1);refine ⟨_,?_,h1,h2⟩;have hfk:=hK.fk key l w;rw [hg] at hfk;simp only [Instr.mapEntry,Sem.run_bind,run_underlying ht,Result.andThen_ok,run_getObjK hM,hK.ck,List.toList_toArray,hfk,hz,run_setObjK hM,Sem.run_pure,goInt];rw [← putMK_none key z c l 0 hg]
end
section
variable {κ α:Type} [DecidableEq κ]
theorem EsRep.go (key:κ):∀ {ms:MsK κ} {es:List (Eo κ α)} (i:Nat),EsRep ms es→(goMK key ms i=none∧key ∉ es.map (·.key))∨∃ es1 e es2 m,es=es1++e::es2∧e.key=key∧key ∉ es1.map (·.key)∧ms[es1.length]?=some m∧m.1=key∧goMK key ms i=some (i+es1.length,.slice e.A e.xs.length e.c)
 | [],[],_,_=>.inl ⟨rfl,by simp⟩
 | m::ms,e::es,i,⟨h1,h2⟩=>by
  by_cases hk:e.key=key
  ·exact .inr ⟨[],e,es,m,rfl,hk,by simp,rfl,h1.1.trans hk,by simp [goMK,h1.1,h1.2,hk]⟩
  ·have hm:¬m.1=key:=λhh=>hk (h1.1.symm.trans hh)
   rcases h2.go key (i+1) with ⟨h3,h4⟩|⟨es1,x,es2,m',h3,h4,h5,h6,h7,h8⟩
   ·exact .inl ⟨by simp only [goMK,if_neg hm,h3],by simp [Ne.symm hk];simpa using h4⟩
   ·refine .inr ⟨e::es1,x,es2,m',by rw [h3];rfl,h4,by simp [Ne.symm hk];simpa using h5,by simpa using h6,h7,?_⟩
    simp only [goMK,if_neg hm,h8,List.length_cons]
    congr 2;omega
 | _::_,[],_,h0 | [],_::_,_,h0=>h0.elim
def holeE (F:Nat→Prop) (kv:κ→Value) (el:TypeId) (rep:Rep α) (b:Nat) (ps:Ko κ α) (key:κ) (st:Nat):Rs:=
 objR F λM=>∃ ms c es1 e es2,M=mbR kv b ms c::owE el rep (es1++es2)∧MoA ms c (es1++e::es2) (putO key e.xs ps)∧e.key=key∧(ms[es1.length]?).map (·.2.2)=some st
theorem EsRep.set {ι:Type} {e e':Eo ι α} (hk:e'.key=e.key):∀ {es1:List (Eo ι α)} {es2:List (Eo ι α)} {ms:MsK ι},EsRep ms (es1++e::es2)→EsRep (setMK es1.length (.slice e'.A e'.xs.length e'.c) ms) (es1++e'::es2)
 | [],es2,m::ms,⟨h1,h2⟩=>⟨⟨h1.1.trans hk.symm,rfl⟩,h2⟩
 | a::es1,es2,m::ms,⟨h1,h2⟩=>⟨h1,EsRep.set (e:=e) hk h2⟩
 | [],_,[],h0 | _::_,_,[],h0=>h0.elim
theorem putO_putO (key:κ) (xs ys:List α):∀ (ps:Ko κ α),putO key xs (putO key ys ps)=putO key xs ps
 | []=>by simp [putO]
 | p::r=>by
  by_cases hk:p.1=key
  ·simp [putO,hk]
  ·simp [putO,hk,putO_putO key xs ys r]
theorem putO_look (key:κ):∀ (ps:Ko κ α),key∈ps.map (·.1)→putO key (lookO key ps) ps=ps
 | [],h=>by simp at h
 | p::r,h=>by
  by_cases hk:p.1=key
  ·obtain ⟨a,b⟩:=p
   have hk:a=key:=hk;subst hk;simp [putO,lookO]
  ·have:=putO_look key r (by simpa [Ne.symm hk] using h)
   unfold lookO at this ⊢;simp only [putO,hk,if_false,List.find?_cons,decide_false];rw [this]
end
section
variable {κ α:Type} [DecidableEq κ] {Z0 S:Nat→Prop} {w0 w:World} {K L:List Rs} {kv:κ→Value} {el:TypeId} {rep:Rep α} {b:Nat} {ps:Ko κ α} {F:Nat→Prop}
variable {P:Program} {f:FuncId} {n:Nat} {e:Env} {ops:Array Oper} {d:Nat} {ty:TypeId} {pos:String} {af:Array Edge} {g:Option (Nat×Bool)} {S':World→Prop} {fuel:Nat} {listed:Array Bool} {K':Act→World→Prop}
theorem Hp.meTake (hm:Hp Z0 S w0 w (K++[mapO F kv el rep b ps])) {t kt et:TypeId} (hK:KeyOk P kt kv) (key:κ) (ht:P.underlying t=some (.map kt et)) (hz:∀ w,(zeroValue et).run P w=.ok (.slice none 0 0) w) :
 ∃ A c st F' w',(Instr.mapEntry t (.map (some b)) (kv key)).run P w=.ok (.tuple #[.slice A (lookO key ps).length c,.int .i64 (st:Nat)]) w' ∧
  Hp Z0 S w0 w' (K++[ownR el A c rep (lookO key ps),holeE F' kv el rep b ps key st]):=by
 obtain ⟨M,⟨ms,c,es,rfl,ha⟩,hm'⟩:=hm.unf K.length (by simp;rfl)
 have e0:(K++[mapO F kv el rep b ps]).eraseIdx K.length=K:=by simp [List.eraseIdx_append_of_length_le]
 rw [e0] at hm'
 have hi:(K++(mbR kv b ms c::owE el rep es))[K.length]?=some (mbR kv b ms c):=by simp
 have hM:MpK kv w b ms c:=hm'.hs K.length (mbR kv b ms c) hi
 rcases ha.rp.go key 0 with ⟨h1,h2⟩|⟨es1,x,es2,m,rfl,hk,hn,hl,hmk,hg⟩
 ·have hlo:lookO key ps=[]:=by rw [← ha.pl];exact look_no key es h2
  obtain ⟨w',hr,hM',hF⟩:=mapEntryK_none (P:=P) hK key ht hz hM h1;have hm2:=hm'.upd K.length (mbR kv b (putMK key (.slice none 0 0) c ms) (c+1)) hi hF (λx hx=>.inl hx) (λ_ _ _=>hM')
  have e1:(K++(mbR kv b ms c::owE el rep es)).set K.length (mbR kv b (putMK key (.slice none 0 0) c ms) (c+1))=K++(mbR kv b (putMK key (.slice none 0 0) c ms) (c+1)::owE el rep es):=by
   rw [List.set_append_right _ _ (by simp)];simp
  rw [e1] at hm2
  have h3:Hp Z0 S w0 w' ((K++[ownR el none 0 rep []])++(mbR kv b (putMK key (.slice none 0 0) c ms) (c+1)::owE el rep (es++[]))):=by
   refine (hm2.addNil el rep).perm ?_;rw [List.append_nil,List.append_assoc,List.append_assoc];exact (List.perm_append_left_iff K).2 List.perm_append_comm
  obtain ⟨r1,r2⟩:=put_new (cl:=c) (e':=(⟨key,none,0,[]⟩:Eo κ α)) ha.rp rfl h2;obtain ⟨s1,s2⟩:=stamps_put (c':=c+1) ha.born ha.bnd (.inr ⟨r2,rfl⟩);obtain ⟨F',h4⟩:=h3.fold (λM=>∃ ms c2 es1 e es2,M=mbR kv b ms c2::owE el rep (es1++es2)∧MoA ms c2 (es1++e::es2) (putO key e.xs ps)∧e.key=key∧(ms[es1.length]?).map (·.2.2)=some c)
   ⟨_,c+1,es,⟨key,none,0,[]⟩,[],rfl,⟨r1,by rw [← ha.pl];exact pl_new (e':=⟨key,none,0,[]⟩) rfl h2,(putO_keys key _ ps).2 ha.nd,s1,s2⟩,rfl,by
    have r3:(putMK key (.slice none 0 0) c ms).map (·.2.2)=ms.map (·.2.2)++[c]:=r2;rw [← List.getElem?_map,r3]
    have:es.length=(ms.map (·.2.2)).length:=by have:=congrArg List.length ha.rp.keys;simpa using this.symm
    rw [this];simp⟩
  refine ⟨none,0,c,F',w',by rw [hlo];exact hr,?_⟩;rw [hlo];rwa [List.append_assoc] at h4
 ·have hlo:lookO key ps=x.xs:=by rw [← ha.pl];exact look_pl key es1 x es2 hk hn
  rw [Nat.zero_add] at hg;obtain ⟨w',hr,hM',hF⟩:=mapEntryK_some (P:=P) hK key ht hM hg hl hmk;have hm2:=hm'.upd K.length (mbR kv b ms c) hi hF (λx hx=>.inl hx) (λ_ _ _=>hM')
  have e1:(K++(mbR kv b ms c::owE el rep (es1++x::es2))).set K.length (mbR kv b ms c)=K++(mbR kv b ms c::owE el rep (es1++x::es2)):=by
   rw [List.set_append_right _ _ (by simp)];simp
  rw [e1] at hm2
  have h3:Hp Z0 S w0 w' ((K++[ownR el x.A x.c rep x.xs])++(mbR kv b ms c::owE el rep (es1++es2))):=by
   refine hm2.perm ?_;rw [List.append_assoc];refine (List.perm_append_left_iff K).2 ?_;simp only [List.map_append,List.map_cons,List.cons_append,List.nil_append];refine List.Perm.trans ((List.perm_cons _).2 List.perm_middle) ?_;exact List.Perm.swap _ _ _
  have hps:putO key x.xs ps=ps:=by
   rw [← hlo];refine putO_look key ps ?_;rw [← ha.pl,plE_keys];simp [hk]
  obtain ⟨F',h4⟩:=h3.fold (λM=>∃ ms c es1 e es2,M=mbR kv b ms c::owE el rep (es1++es2)∧MoA ms c (es1++e::es2) (putO key e.xs ps)∧e.key=key∧(ms[es1.length]?).map (·.2.2)=some m.2.2)
   ⟨ms,c,es1,x,es2,rfl,by rw [hps];exact ha,hk,by rw [hl];rfl⟩
  refine ⟨x.A,x.c,m.2.2,F',w',by rw [hlo];exact hr,?_⟩;rw [hlo];rwa [List.append_assoc] at h4
theorem RH.meTake {t kt et:TypeId} {x y:Operand} (i:Nat) (hr:Region.ready .any ops listed=[i]) (hm:Hp Z0 S w0 w (K++[mapO F kv el rep b ps])) (hK:KeyOk P kt kv) (key:κ)
 (ho:ops[i]?=some ⟨some d,.mapEntry t x y,ty,pos,af,g⟩) (hg:gok e ops g=true) (hn:Nat.blt d n=true) (ht:P.underlying t=some (.map kt et)) (hz:∀ w,(zeroValue et).run P w=.ok (.slice none 0 0) w) (hx:ev e x=some (.map (some b))) (hy:ev e y=some (kv key))
 (h:∀ A c st F' w',Hp Z0 S w0 w' (K++[ownR el A c rep (lookO key ps),holeE F' kv el rep b ps key st])→S' w'∧RG P n K' ops S' fuel (listed.setIfInBounds i true) ((d,.tuple #[.slice A (lookO key ps).length c,.int .i64 (st:Nat)])::e) w') :
 RG P n K' ops S' (fuel+1) listed e w:=by
 obtain ⟨A,c,st,F',w',hrun,hm2⟩:=hm.meTake (P:=P) hK key ht hz;obtain ⟨h6,h7⟩:=h A c st F' w' hm2;exact RH.one i hr ho hg rfl hn (λa hf=>by simp [execOp,ev_eval hf hx,ev_eval hf hy,hrun]) h6 h7
theorem Hp.mePut {A:Option Addr} {c' st:Nat} {xs:List α} {key:κ} (t:TypeId) (hm:Hp Z0 S w0 w (K++[ownR el A c' rep xs,holeE F kv el rep b ps key st])) :
 ∃ F' w',(Instr.entryStore t (.map (some b)) (.int .i64 (st:Nat)) (.slice A xs.length c')).run P w=.ok () w'∧Hp Z0 S w0 w' (K++[mapO F' kv el rep b (putO key xs ps)]):=by
 obtain ⟨M,⟨ms,c,es1,x,es2,rfl,ha,hk,hst⟩,hm'⟩:=hm.unf (K.length+1) (by simp;rfl)
 have e0:(K++[ownR el A c' rep xs,holeE F kv el rep b ps key st]).eraseIdx (K.length+1)=K++[ownR el A c' rep xs]:=by
  rw [List.eraseIdx_append_of_length_le (by omega)];simp
 rw [e0] at hm'
 have hi:((K++[ownR el A c' rep xs])++(mbR kv b ms c::owE el rep (es1++es2)))[K.length+1]?=some (mbR kv b ms c):=by simp
 have hM:MpK kv w b ms c:=hm'.hs _ _ hi;obtain ⟨w',hr,hM',hF⟩:=entryStoreK_run (P:=P) (t:=t) (.slice A xs.length c') hM ha.bnd hst;have hm2:=hm'.upd (K.length+1) (mbR kv b (setMK es1.length (.slice A xs.length c') ms) c) hi hF (λx hx=>.inl hx) (λ_ _ _=>hM')
 have e1:((K++[ownR el A c' rep xs])++(mbR kv b ms c::owE el rep (es1++es2))).set (K.length+1) (mbR kv b (setMK es1.length (.slice A xs.length c') ms) c)=(K++[ownR el A c' rep xs])++(mbR kv b (setMK es1.length (.slice A xs.length c') ms) c::owE el rep (es1++es2)):=by
  rw [List.set_append_right _ _ (by simp)];simp
 rw [e1] at hm2
 have hnd1:key ∉ es1.map (·.key):=by
  have:=ha.nd;rw [← ha.pl,plE_keys,List.map_append,List.map_cons,List.nodup_append] at this;intro hh;exact this.2.2 key hh x.key (by simp) hk.symm
 have hp:((K++[ownR el A c' rep xs])++(mbR kv b (setMK es1.length (.slice A xs.length c') ms) c::owE el rep (es1++es2))).Perm (K++(mbR kv b (setMK es1.length (.slice A xs.length c') ms) c::owE el rep (es1++(⟨key,A,c',xs⟩:Eo κ α)::es2))):=by
  rw [List.append_assoc];refine (List.perm_append_left_iff K).2 ?_;simp only [List.map_append,List.map_cons,List.cons_append,List.nil_append];refine List.Perm.trans (List.Perm.swap _ _ _) ((List.perm_cons _).2 ?_);exact List.perm_middle.symm
 have hpl:plE (es1++(⟨key,A,c',xs⟩:Eo κ α)::es2)=putO key xs ps:=by
  rw [pl_put (e':=⟨key,A,c',xs⟩) hk rfl hnd1,ha.pl,putO_putO]
 have hnd:((putO key xs ps).map (·.1)).Nodup:=by
  have:=(putO_keys key xs (putO key x.xs ps)).2 ha.nd;rwa [putO_putO] at this
 obtain ⟨F',h4⟩:=(hm2.perm hp).fold (λM=>∃ ms c es,M=mbR kv b ms c::owE el rep es∧MoA ms c es (putO key xs ps))
  ⟨_,c,_,rfl,⟨EsRep.set (e:=x) (e':=⟨key,A,c',xs⟩) hk.symm ha.rp,hpl,hnd,λp hp=>by
   have:p.2.2∈ms.map (·.2.2):=by rw [← setMK_st es1.length (.slice A xs.length c') ms];exact List.mem_map_of_mem hp
   obtain ⟨q,hq,hqe⟩:=List.mem_map.1 this;have:=ha.born q hq
   omega,by rw [setMK_st];exact ha.bnd⟩⟩
 exact ⟨F',w',hr,h4⟩
theorem RH.mePut {t:TypeId} {x y z:Operand} {A:Option Addr} {c' st:Nat} {xs:List α} {key:κ} (i:Nat) (hr:Region.ready .any ops listed=[i]) (hm:Hp Z0 S w0 w (K++[ownR el A c' rep xs,holeE F kv el rep b ps key st]))
 (ho:ops[i]?=some ⟨none,.entryStore t x y z,ty,pos,af,g⟩) (hg:gok e ops g=true) (hx:ev e x=some (.map (some b))) (hy:ev e y=some (.int .i64 (st:Nat))) (hz:ev e z=some (.slice A xs.length c'))
 (h:∀ F' w',Hp Z0 S w0 w' (K++[mapO F' kv el rep b (putO key xs ps)])→S' w'∧RG P n K' ops S' fuel (listed.setIfInBounds i true) e w'):RG P n K' ops S' (fuel+1) listed e w:=by
 obtain ⟨F',w',hrun,hm2⟩:=hm.mePut (P:=P) t;obtain ⟨h6,h7⟩:=h F' w' hm2;exact RH.oneU i hr ho hg rfl (λa hf=>by simp [execOp,ev_eval hf hx,ev_eval hf hy,ev_eval hf hz,hrun]) h6 h7
theorem Hp.moReadZ (hm:Hp Z0 S w0 w L) (i:Nat) (hi:L[i]?=some (fzR (mapO F kv el rep b ps))) (key:κ):∃ A c ms cl,MpK kv w b ms cl∧(lookMK ms key).getD (.slice none 0 0)=.slice A (lookO key ps).length c∧Hp Z0 S w0 w (L++[slR A c rep (lookO key ps)]):=by
 obtain ⟨⟨M,⟨ms,c,es,rfl,ha⟩,hF,hH,hA⟩,hZ⟩:=hm.hs i _ hi;have hM:MpK kv w b ms c:=hH 0 (mbR kv b ms c) rfl
 rcases ha.rp.look key with ⟨h1,h2⟩|⟨es1,x,es2,rfl,hk,hn,hl⟩
 ·have hlo:lookO key ps=[]:=by rw [← ha.pl];exact look_no key es h2
  refine ⟨none,0,ms,c,hM,by rw [h1,hlo];rfl,?_⟩;rw [hlo];exact hm.know _ (λ_ h=>h) ⟨Nat.zero_le _,Nat.zero_le _,Sl.nil _ _ _ _⟩
 ·have hlo:lookO key ps=x.xs:=by rw [← ha.pl];exact look_pl key es1 x es2 hk hn
  have hidx:(mbR kv b ms c::owE el rep (es1++x::es2))[es1.length+1]?=some (ownR el x.A x.c rep x.xs):=by simp
  have ho:=hH (es1.length+1) (ownR el x.A x.c rep x.xs) hidx;refine ⟨x.A,x.c,ms,c,hM,by rw [hl,hlo];rfl,?_⟩;rw [hlo];exact hm.know _ (λ_ h=>h) ⟨ho.1,ho.2.1,(Own.sl ho).mono λy hy=>hy.elim id λhy=>hZ y ((hF y).2 ⟨_,_,hidx,hy⟩)⟩
end
end Go.Wk
set_option linter.unusedVariables false
set_option linter.unusedSimpArgs false
namespace Go.Wk
open Go Go.RowKit
section
variable {κ:Type} [DecidableEq κ] {kv:κ→Value} {P:Program} {f:FuncId} {n:Nat} {R:Ending→World→Prop} {k:List Item} {e:Env} {w:World}
variable {ops:Array Oper} {i:Nat} {rest:List Nat} {d:Nat} {dst:Option Nat} {ty:TypeId} {pos:String} {af:Array Edge} {g:Option (Nat×Bool)}
def leftMK (l:MsK κ) (seen:List Nat):MsK κ:=l.filter λp=>!seen.contains p.2.2
theorem Rn.rngK {ι:Type} {kv':ι→Value} {t kt et:TypeId} {x:Operand} {b c:Nat} {l:MsK ι} (ho:ops[i]?=some ⟨some d,.range t x,ty,pos,af,g⟩) (hg:gok e ops g=true) (hn:Nat.blt d n=true) (ht:P.underlying t=some (.map kt et)) (hx:ev e x=some (.map (some b))) (hM:MpK kv' w b l c)
 (h:∀ bi w',bi=w.heap.size→Itr w' bi b c []→Ext w w'→Rn P f n R (.inRegion ops rest::k) ((d,.pointer (some ⟨bi,0,none⟩))::e) w'):Rn P f n R (.inRegion ops (i::rest)::k) e w:=
 Rn.opV (w':=w.alloc (.mapIter (some b) c #[] c)) ho hg rfl hn (λa hf=>by
  simp [execOp,ev_eval hf hx,Instr.range,run_underlying ht,run_getObjK hM]) (h w.heap.size _ rfl (heap_alloc_new w _) (Ext.alloc w _))
theorem filter_entK {ι:Type} {kv':ι→Value} (l:MsK ι) (q:MapEntry→Bool):(l.map (entK kv')).toArray.filter q=((l.filter λp=>q (entK kv' p)).map (entK kv')).toArray:=by
 rw [List.filter_toArray,List.filter_map];rfl
theorem nextK_run {ι:Type} {kv':ι→Value} {bi b c:Nat} {l:MsK ι} {seen:List Nat} (hM:MpK kv' w b l c) (hI:Itr w bi b c seen) (hb:∀ p∈l,p.2.2<c) (tt:TypeId) :
 (leftMK l seen=[]∧(Instr.next (.pointer (some ⟨bi,0,none⟩)) false tt).run P w=.ok (.tuple #[.bool false]) w) ∨
 (∃ p w',p∈leftMK l seen∧(Instr.next (.pointer (some ⟨bi,0,none⟩)) false tt).run P w=.ok (.tuple #[.bool true,kv' p.1,p.2.1]) w'∧Itr w' bi b c (seen++[p.2.2])∧Fr (λx=>x=bi) w w'):=by
 have hgo:∀ (o:Obj),(∀ cs t fr,o≠.cells cs t fr)→∀ (bb:Nat) (w:World),w.heap[bb]?=some o→(getObj bb).run P w=.ok o w:=by
  intro o ho bb w hh
  cases o<;>first | exact absurd rfl (ho _ _ _) | simp [getObj,Sem.run,hh]
 have h1:=hgo _ (λ_ _ _=>by simp) bi w hI;have h2:=run_getObjK (P:=P) hM
 have hall:(!seen.toArray.isEmpty && !(l.map (entK kv')).toArray.isEmpty&&(l.map (entK kv')).toArray.all (λe=>decide (c≤e.born)))=false:=by
  cases l with
  | nil=>simp
  | cons p r=>
   have:=hb p (by simp);simp [entK];intro _ hh
   omega
 have hleft:(l.map (entK kv')).toArray.filter (λe=>!seen.toArray.contains e.born)=((leftMK l seen).map (entK kv')).toArray:=by
  rw [filter_entK];simp [leftMK,entK]
 have hlt:∀ p∈leftMK l seen,p.2.2<c:=λp hp=>hb p (List.mem_filter.1 hp).1
 have hold:((leftMK l seen).map (entK kv')).toArray.filter (λe=>decide (e.born<c))=((leftMK l seen).map (entK kv')).toArray:=by
  rw [filter_entK]
  congr 2
  exact List.filter_eq_self.2 λp hp=>decide_eq_true (hlt p hp)
 have hnew:((leftMK l seen).map (entK kv')).toArray.filter (λe=>decide (c≤e.born))=#[]:=by
  rw [filter_entK]
  have:(leftMK l seen).filter (λp=>decide (c≤(entK kv' p).born))=[]:=List.filter_eq_nil_iff.2 λp hp=>by
   intro hh;have h3:c≤p.2.2:=of_decide_eq_true hh;have:=hlt p hp
   omega
  rw [this];rfl
 have hnew':((leftMK l seen).map (entK kv')).toArray.filter (λe=>decide (e.born≥c))=#[]:=hnew;have hall':(!seen.toArray.isEmpty && !(l.map (entK kv')).toArray.isEmpty&&(l.map (entK kv')).toArray.all (λe=>decide (e.born≥c)))=false:=hall
 cases hL:leftMK l seen with
 | nil=>
  left
  refine ⟨rfl,?_⟩;rw [hL] at hleft hold hnew';simp only [Instr.next,Sem.run_bind,h1,Result.andThen_ok,h2,hall',Bool.false_eq_true,if_false,hleft];simp [Question.forced,run_choose]
 | cons q r=>
  right
  have hne:((leftMK l seen).map (entK kv')).toArray.isEmpty=false:=by rw [hL];rfl
  let m:=((leftMK l seen).map (entK kv')).toArray.size
  have hm:0<m:=by simp [m,hL]
  have hcand:∀ j,j<m→∃ p,(leftMK l seen)[j]?=some p∧(#[]++(((leftMK l seen).map (entK kv')).toArray++#[]).map some)[j]?=some (some (entK kv' p)):=by
   intro j hj
   have hj':j<(leftMK l seen).length:=by simpa [m] using hj
   refine ⟨(leftMK l seen)[j],List.getElem?_eq_getElem hj',?_⟩;simp [hj']
  have hchoose:∃ j w1,j<m∧(choose (.mapNext m)).run P w=.ok j w1∧Ext w w1:=by
   rw [run_choose]
   by_cases h:(Question.mapNext m).forced=true
   ·exact ⟨0,w,hm,by rw [if_pos h],Ext.refl _⟩
   ·refine ⟨_,w.drew,?_,by rw [if_neg h];rfl,Ext.drew w⟩
    exact Nat.mod_lt _ hm
  obtain ⟨j,w1,hj,hc1,hE⟩:=hchoose;obtain ⟨p,hp,hcj⟩:=hcand j hj;have hbi1:w1.heap[bi]?=some (.mapIter (some b) c seen.toArray c):=(hE.keep bi hI.lt (λh=>h)).trans hI
  have hset:(setObj bi (.mapIter (some b) c (seen.toArray.push (entK kv' p).born) c)).run P w1=.ok () { w1 with heap:=w1.heap.setIfInBounds bi (.mapIter (some b) c (seen.toArray.push (entK kv' p).born) c) }:=by simp [setObj,Sem.run,hbi1]
  refine ⟨p,{ w1 with heap:=w1.heap.setIfInBounds bi (.mapIter (some b) c (seen.toArray.push (entK kv' p).born) c) },by rw [← hL];exact List.mem_of_getElem? hp,?_,?_,?_⟩
  ·simp only [Instr.next,Sem.run_bind,h1,Result.andThen_ok,h2,hall',Bool.false_eq_true,if_false,hleft,hold,hnew',hne]
   have hsz:(#[]++(((leftMK l seen).map (entK kv')).toArray++#[]).map some).size=m:=by simp [m]
   simp only [hsz,hc1,Result.andThen_ok,hcj,Sem.run_bind,hset,Sem.run_pure]
   rfl
  ·have hlt1:bi<w1.heap.size:=Nat.lt_of_lt_of_le hI.lt hE.size
   unfold Itr;simp [Array.getElem?_setIfInBounds,hlt1,entK]
  ·refine (Ext.fr hE).trans ⟨rfl,rfl,rfl,by simp,λx hx hn=>?_⟩
   rw [Array.getElem?_setIfInBounds_ne (Ne.symm hn)]
theorem Rn.nxtK {ι:Type} {kv':ι→Value} {x:Operand} {bi b c:Nat} {l:MsK ι} {seen:List Nat} (ho:ops[i]?=some ⟨some d,.next x false,ty,pos,af,g⟩) (hg:gok e ops g=true) (hn:Nat.blt d n=true) (hx:ev e x=some (.pointer (some ⟨bi,0,none⟩))) (hM:MpK kv' w b l c) (hI:Itr w bi b c seen) (hb:∀ p∈l,p.2.2<c)
 (h0:leftMK l seen=[]→Rn P f n R (.inRegion ops rest::k) ((d,.tuple #[.bool false])::e) w)
 (h1:∀ p w',p∈leftMK l seen→Itr w' bi b c (seen++[p.2.2])→Fr (λx=>x=bi) w w'→Rn P f n R (.inRegion ops rest::k) ((d,.tuple #[.bool true,kv' p.1,p.2.1])::e) w'):Rn P f n R (.inRegion ops (i::rest)::k) e w:=by
 rcases nextK_run (P:=P) hM hI hb ty with ⟨hl,hr⟩|⟨p,w',hp,hr,hI',hF⟩
 ·exact Rn.opV ho hg rfl hn (λa hf=>by simp [execOp,ev_eval hf hx,hr]) (h0 hl)
 ·exact Rn.opV ho hg rfl hn (λa hf=>by simp [execOp,ev_eval hf hx,hr]) (h1 p w' hp hI' hF)
theorem V.entryK {ι:Type} {kv':ι→Value} {x:Operand} {bi b c:Nat} {l:MsK ι} {seen:List Nat} {p:ι×Value×Nat} (hx:ev e x=some (.pointer (some ⟨bi,0,none⟩))) (hM:MpK kv' w b l c) (hI:Itr w bi b c (seen++[p.2.2])) (hp:p∈l) (hnd:(l.map (·.2.2)).Nodup) :
 OpV P n e w ⟨dst,.entry x,ty,pos,af,g⟩ (.tuple #[kv' p.1,p.2.1]) w:=λa hf=>by
 have h1:(getObj bi).run P w=.ok (.mapIter (some b) c (seen++[p.2.2]).toArray c) w:=by unfold Itr at hI;simp only [getObj,Sem.run,hI]
 have h2:=run_getObjK (P:=P) hM
 have hfind:(l.map (entK kv')).toArray.find? (λe=>e.born==p.2.2)=some (entK kv' p):=by
  rw [List.find?_toArray,List.find?_map]
  have:l.find? ((λe:MapEntry=>e.born==p.2.2) ∘ (entK kv'))=some p:=by
   clear hM h2 h1 hI
   induction l with
   | nil=>simp at hp
   | cons q r ih=>
    simp only [List.map_cons,List.nodup_cons] at hnd
    by_cases hq:q.2.2=p.2.2
    ·have:q=p:=by
      rcases List.mem_cons.1 hp with rfl|hp
      ·rfl
      ·exact absurd (hq▸List.mem_map_of_mem hp) hnd.1
     subst this;simp [List.find?_cons,entK]
    ·have hp':p∈r:=by
      rcases List.mem_cons.1 hp with rfl|hp
      ·exact absurd rfl hq
      ·exact hp
     rw [List.find?_cons]
     have:((λe:MapEntry=>e.born==p.2.2) ∘ (entK kv')) q=false:=by simp [entK,hq]
     rw [this];exact ih hp' hnd.2
  rw [this];rfl
 have hback:(seen++[p.2.2]).toArray.back?=some p.2.2:=by simp
 simp only [execOp,ev_eval hf hx,Instr.entry,Sem.run_bind,h1,Result.andThen_ok,hback,h2,bne_self_eq_false,Bool.false_eq_true,if_false,hfind,Sem.run_pure]
 rfl
theorem leftMK_perm {ι:Type} (l:MsK ι) (seen:List Nat) (p:ι×Value×Nat) (hnd:(l.map (·.2.2)).Nodup) (hp:p∈leftMK l seen):(leftMK l seen).Perm (p::leftMK l (seen++[p.2.2])):=by
 have h1:leftMK l (seen++[p.2.2])=(leftMK l seen).filter λq=>!(q.2.2==p.2.2):=by
  unfold leftMK;rw [List.filter_filter]
  congr 1
  funext q
  by_cases h:q.2.2=p.2.2<;>simp [h,Bool.and_comm]
 have hnd':((leftMK l seen).map (·.2.2)).Nodup:=by
  have:((leftMK l seen).map (·.2.2)).Sublist (l.map (·.2.2)):=List.Sublist.map _ List.filter_sublist;exact hnd.sublist this
 rw [h1];clear h1;generalize leftMK l seen=m at *
 induction m with
 | nil=>simp at hp
 | cons q r ih=>
  simp only [List.map_cons,List.nodup_cons] at hnd'
  rcases List.mem_cons.1 hp with rfl|hp'
  ·have:r.filter (λq=>!(q.2.2==p.2.2))=r:=List.filter_eq_self.2 λx hx=>by
    have:x.2.2≠p.2.2:=λhh=>hnd'.1 (hh▸List.mem_map_of_mem hx)
    simp [this]
   simp [List.filter_cons,this]
  ·have hq:q.2.2≠p.2.2:=λhh=>hnd'.1 (hh▸List.mem_map_of_mem hp')
   rw [List.filter_cons];simp only [beq_iff_eq,hq,not_false_eq_true,decide_true,Bool.not_eq_true',if_true]
   have hb:(q.2.2==p.2.2)=false:=by simpa using hq
   simp only [hb,Bool.not_false,if_true];exact ((ih hp' hnd'.2).cons q).trans (List.Perm.swap _ _ _)
theorem Rn.yield {l m:Nat} {y:Operand} {xs:List Operand} {ts:Array TypeId} {vs:List Value} {R':Ending→World→Prop}
 (ho:ops[i]?=some ⟨some d,.call { callee:=.value y,args:=xs.toArray,argTypes:=ts },ty,pos,af,g⟩) (hg:gok e ops g=true) (hn:Nat.blt d n=true)
 (hy:ev e y=some (.func (.yield l) #[] #[])) (hx:evs e xs=some vs) (hY:YieldAt Fence.wide m P l vs.toArray w R')
 (h:∀ x w',R' x w'→∃ v,x=.returned v∧Rn P f n R (.inRegion ops rest::k) ((d,v)::e) w'):Rn P f n R (.inRegion ops (i::rest)::k) e w:=by
 intro b tm cs h1 h2 h3;obtain ⟨fn,tmps,assign,body,hyl,hRd⟩:=hY;have hw:=wanted_of_gok (o:=⟨some d,.call { callee:=.value y,args:=xs.toArray,argTypes:=ts },ty,pos,af,g⟩) (ops:=ops) (tm:=tm) h3 hg;have hst:=stepG_op (P:=P) (b:=b) (a:=⟨tm,[]⟩) (k:=k) (cs:=cs) (w:=w) (rest:=rest) ho hw
 have hr:(execOp (Act.eval ⟨tm,[]⟩) ⟨some d,.call { callee:=.value y,args:=xs.toArray,argTypes:=ts },ty,pos,af,g⟩).run P w=.ok (.round l fn tmps assign body) w:=by
  simp [execOp,resolve,ev_eval (a:=⟨tm,[]⟩) h3 hy,Deferred.ofValue,invoke,evs_map (a:=⟨tm,[]⟩) h3 hx,hyl]
 have henter:step P (lone (b.at ⟨tm,[]⟩ (.inRegion ops (i::rest)::k)) cs w) =
  .next (lone (Frame.round l fn tmps assign body .normal) (b.at ⟨tm,[]⟩ (.inRegion ops (i::rest)::k)::cs) w):=
  step_lone_go (by rw [hst];simp [stepG.apply,hr,Frame.at])
 obtain ⟨x,w',hR,hcomes⟩:=hRd.2 (b.at ⟨tm,[]⟩ (.inRegion ops (i::rest)::k)) cs (room_wide _);obtain ⟨v,rfl,hk⟩:=h x w' hR;have hcomes:=comesIn_wide.1 hcomes;have hfin:=Frame.finish_at b ⟨tm,[]⟩ ops i rest k v
 have hn':d<n:=by simpa [Nat.blt_eq] using hn
 obtain ⟨x2,w2,fr2,hR2,hc2,q⟩:=hk b (tm.setIfInBounds d v) cs h1 h2 (h3.put hn' v);refine ⟨x2,w2,fr2,hR2,Comes.of_steps (.head henter ?_) hc2,q⟩;have hcs:Steps P (lone (Frame.round l fn tmps assign body .normal) (b.at ⟨tm,[]⟩ (.inRegion ops (i::rest)::k)::cs) w) (lone ((b.at ⟨tm,[]⟩ (.inRegion ops (i::rest)::k)).finish v) cs w'):=hcomes;rw [hfin] at hcs;simpa [ho,Act.put] using hcs
theorem grown_fr {b:Nat} {w w':World} (h:Fr (λx=>x=b) w w'):w.grownBy w' (some b):=⟨h.os,h.tape,h.output,h.size,λk hk hn=>h.keep k hk λe=>hn (by rw [e])⟩
theorem grown_ext {w w':World} (h:Ext w w'):w.grownBy w' none:=⟨h.os,h.tape,h.output,h.size,λk hk _=>h.keep k hk λe=>e⟩
theorem MpK.walks {ι:Type} {kv':ι→Value} {b:Nat} {l:MsK ι} {c:Nat} {w w':World} (h:MpK kv' w b l c) (hk:KeepsWalks w w'):MpK kv' w' b l c:=hk.same b _ h rfl
theorem Itr.walks {bi mb since:Nat} {seen:List Nat} {w w':World} (h:Itr w bi mb since seen) (hk:KeepsWalks w w'):Itr w' bi mb since seen:=hk.same bi _ h rfl
end
end Go.Wk
set_option linter.unusedVariables false
set_option linter.unusedSimpArgs false
namespace Go.Wk
open Go Go.RowKit
def ptrR:Rep Nat:=Rep.flat 1 (λb=>[pt b 0]) (λ_=>True) (λ_=>rfl) (λ_=>by simp [Value.oneCell']) Nat.one_pos
structure Pe (α:Type) where
 F:Nat→Prop
 b:Nat
 x:α
section
variable {α:Type}
abbrev peO (R:(Nat→Prop)→Nat→α→Rs) (es:List (Pe α)):List Rs:=es.map λe=>R e.F e.b e.x
abbrev plP (el:TypeId) (A:Option Addr) (c:Nat) (R:(Nat→Prop)→Nat→α→Rs) (xs:List α):List Rs→Prop:=λM=>∃ es:List (Pe α),M=ownR el A c ptrR (es.map (·.b))::peO R es∧es.map (·.x)=xs
def plR (F:Nat→Prop) (el:TypeId) (A:Option Addr) (c:Nat) (R:(Nat→Prop)→Nat→α→Rs) (xs:List α):Rs:=objR F (plP el A c R xs)
end
section
variable {α:Type} {Z0 S:Nat→Prop} {w0 w:World} {K L:List Rs} {el:TypeId} {R:(Nat→Prop)→Nat→α→Rs} {F:Nat→Prop} {A:Option Addr} {c:Nat} {xs:List α}
theorem Hp.plNil (hm:Hp Z0 S w0 w L) (el:TypeId) (R:(Nat→Prop)→Nat→α→Rs):∃ F,Hp Z0 S w0 w (L++[plR F el none 0 R []]):=
 (hm.addNil el ptrR).fold (plP el none 0 R []) ⟨[],rfl,rfl⟩
theorem Hp.frz {r:Rs} (hm:Hp Z0 S w0 w L) (i:Nat) (hi:L[i]?=some r):Hp Z0 S w0 w (L.set i (fzR r)):=
 hm.upd i (fzR r) hi (Fr.refl _ _) (λ_ hx=>hx.elim) λ_ h1 h2=>⟨r.keep (hm.hs i r hi) (λ_ _ _=>rfl) (λ_ _ _=>rfl) h1,λb hb=>h2 b (.inl hb) λh=>h⟩
theorem Hp.plAt (hm:Hp Z0 S w0 w L) (i:Nat) (hi:L[i]?=some (fzR (plR F el A c R xs))) {j:Nat} {z:α} (hz:xs[j]?=some z) :
 ∃ b o F1 b1,A=some ⟨b,o,none⟩∧Hp Z0 S w0 w (L++[fzR (R F1 b1 z),rdR b (o+j*1) [pt b1 0]]):=by
 obtain ⟨⟨M,⟨es,rfl,rfl⟩,hF,hH,hA⟩,hZ⟩:=hm.hs i _ hi;rw [List.getElem?_map] at hz;obtain ⟨e,he,rfl⟩:=Option.map_eq_some_iff.1 hz;have h0:=hH 0 _ rfl;have hs:=(Own.sl h0).get (k:=j) (x:=e.b) (by rw [List.getElem?_map,he];rfl);obtain ⟨b,o,vs,h1,h2,h3,h4⟩:=hs;have h1':=hH (j+1) (R e.F e.b e.x) (by simp [peO,he])
 have h5:Zo Z0 S w0 L b:=by
  rcases h2 with h2|h2
  ·exact h2
  ·exact hZ b ((hF b).2 ⟨0,_,rfl,h2⟩)
 refine ⟨b,o,e.F,e.b,h1,Hp.knowL _ _ hm (knC (λ_ h=>h) ⟨h1',λb hb=>hZ b ((hF b).2 ⟨j+1,R e.F e.b e.x,by simp [peO,he],hb⟩)⟩ (knC (λ_ h=>h) ⟨λ_=>h5,?_⟩ kn0))⟩;have:=h4.1;subst this;exact h3
variable {P:Program} {f:FuncId} {n:Nat} {Q:Ending→World→Prop} {k:List Item} {e:Env} {ops:Array Oper} {i d:Nat} {rest:List Nat} {ty:TypeId} {pos:String} {af:Array Edge}
theorem Rn.pushP {by_:Nat} {t:TypeId} {x y:Operand} {ys:List α} {i2 d2:Nat} {ty2:TypeId} {pos2:String} {af2:Array Edge} {z:α} {F1:Nat→Prop} {b1:Nat}
 (hm:Hp Z0 S w0 w (K++[R F1 b1 z,plR F el A c R xs])) (hys:appL xs [z]=some ys)
 (ho:ops[i]?=some ⟨some d,.buildSlice t 1 #[(0,x)],ty,pos,af,none⟩) (ho2:ops[i2]?=some ⟨some d2,.call { callee:=.builtin .append,args:=#[y,.tmp d],argTypes:=#[t,t] },ty2,pos2,af2,none⟩)
 (hn:Nat.blt d n=true) (hn2:Nat.blt d2 n=true)
 (ht:P.underlying t=some (.slice el)) (hel:ElOk P el 1 by_) (hby:Nat.ble by_ 131072=true) (hx:ev e x=some (pt b1 0)) (hy:∀ u,ev ((d,u)::e) y=some (.slice A xs.length c))
 (h:∀ F2 A2 c2 w' u,Hp Z0 S w0 w' (K++[plR F2 el A2 c2 R ys])→Rn P f n Q (.inRegion ops rest::k) ((d2,.slice A2 ys.length c2)::(d,u)::e) w'):Rn P f n Q (.inRegion ops (i::i2::rest)::k) e w:=by
 obtain ⟨M,⟨es,rfl,rfl⟩,hm'⟩:=hm.unf (K.length+1) (by simp;rfl)
 have e0:(K++[R F1 b1 z,plR F el A c R (es.map (·.x))]).eraseIdx (K.length+1)=K++[R F1 b1 z]:=by
  rw [List.eraseIdx_append_of_length_le (by omega)];simp
 rw [e0] at hm';obtain ⟨hle,rfl⟩:=appE hys
 have hys':appL (es.map (·.b)) [b1]=some (es.map (·.b)++[b1]):=by
  unfold appL;rw [if_pos (by simpa using hle)]
 refine Rn.pushH (rep:=ptrR) (z:=b1) (vs:=[pt b1 0]) hm' (K.length+1) (by simp;rfl) hys' ho ho2 hn hn2 ht hel hby rfl hx rfl (λu=>by rw [hy u];simp) ⟨rfl,trivial⟩ ?_;intro A2 c2 w' u hm2
 have e1:(K++[R F1 b1 z]++ownR el A c ptrR (es.map (·.b))::peO R es).set (K.length+1) (ownR el A2 c2 ptrR (es.map (·.b)++[b1]))=K++[R F1 b1 z]++ownR el A2 c2 ptrR (es.map (·.b)++[b1])::peO R es:=by
  rw [List.set_append_right _ _ (by simp)];simp
 rw [e1] at hm2
 have hp:(K++[R F1 b1 z]++ownR el A2 c2 ptrR (es.map (·.b)++[b1])::peO R es).Perm (K++(ownR el A2 c2 ptrR (((es++[⟨F1,b1,z⟩]):List (Pe α)).map (·.b))::peO R (es++[⟨F1,b1,z⟩]))):=by
  rw [List.append_assoc];refine (List.perm_append_left_iff K).2 ?_;simp only [peO,List.map_append,List.map_cons,List.map_nil,List.cons_append,List.nil_append];refine List.Perm.trans (List.Perm.swap _ _ _) ((List.perm_cons _).2 ?_);exact (List.perm_append_comm (l₁:=[R F1 b1 z]))
 obtain ⟨F2,hm3⟩:=(hm2.perm hp).fold (plP el A2 c2 R (es.map (·.x)++[z])) ⟨es++[⟨F1,b1,z⟩],rfl,by simp⟩;have:=h F2 A2 c2 w' u hm3
 have e2:(es.map (·.b)++[b1]).length=(es.map (·.x)++[z]).length:=by simp
 rw [e2];exact this
end
end Go.Wk
set_option linter.unusedVariables false
set_option linter.unusedSimpArgs false
namespace Go.Wk
open Go Go.RowKit
section
variable {α:Type} (key:α→List UInt8)
variable {key}
end
section
variable {α:Type}
end
end Go.Wk
namespace Go.Wk
open Go Go.RowKit
end Go.Wk
set_option linter.unusedVariables false
set_option linter.unusedSimpArgs false
namespace Go.Wk
open Go Go.RowKit Go.WideShapes Go.ChangeShapes
section
variable {H:Type} {enc:TypeId×Value→H} {P:Program}
theorem trodAll_stays {W W':World} {sp:Nat→Bool} (hl:laidOutB P=true):∀ {ts:List TypeId} {vs:List Value} {ds:List (DataW H)} {ps:List MemPlace},(∀ t∈ts,P.readableRec t=true∧t<P.types.size) →
 DataW.TrodAll enc P W 0 (λ_=>true) true ts vs ds ps→(∀ x∈ps,W.sameAt W' x)→(∀ x∈ps,sp x.block=true)→DataW.TrodAll enc P W' 0 sp true ts vs ds ps
 | [],vs,ds,ps,_,h,_,_=>by obtain ⟨rfl,rfl,rfl⟩:=trodAll_nil h;exact trodAll_mk0
 | t::ts,vs,ds,ps,hr,h,hs,hp=>by
  obtain ⟨v,vs',d,ds',p,q,rfl,rfl,rfl,h0,h1⟩:=trodAll_cons h;exact trodAll_cons_mk (WideElems.Trod_stays hl (hr t (by simp)).1 (hr t (by simp)).2 h0 (λx hx=>hs x (by simp [hx])) (λx hx=>hp x (by simp [hx])))
   (trodAll_stays hl (λt' ht=>hr t' (by simp [ht])) h1 (λx hx=>hs x (by simp [hx])) (λx hx=>hp x (by simp [hx])))
theorem post_of_ext {f:Func} {s:ChangeSpec} {W W':World} {args:Array Value} {ds gs:List (DataW H)} {before:List MemPlace} {tb:TypeId} (hl:laidOutB P=true) (hr:∀ t∈f.params.toList,P.readableRec t=true∧t<P.types.size)
 (hW:DataW.Whole enc P f.params.toList s.vars false W args.toList ds gs before) (hv:s.vars=[]) (hres:f.resultTypes=#[tb]) (htb:P.underlying tb=some .bool)
 (h1:(s.fn H (ds++gs)).results=[.lit (.bool true)]) (h2:(s.fn H (ds++gs)).args=ds) (h3:(s.fn H (ds++gs)).vars=[]) (hE:Ext W W') :
 s.post enc P f false true false false W args (.bool true) W':=by
 have hb:=hE.below;have hW0:=hW;obtain ⟨p,q,hA,hV,hpq,hz,hn⟩:=hW;rw [hv] at hV;obtain ⟨rfl,rfl⟩:=trodVars_none hV
 have hlt:∀ x∈before,x.block<W.heap.size:=λx hx=>hW0.lt x hx
 have hpb:∀ x∈p,x∈before:=λx hx=>by rw [hpq];simpa using hx
 have hold:∀ x∈before,(λb=>decide (b<W.heap.size)) x.block=true:=λx hx=>by simpa using hlt x hx
 have hargs:∀ sp:Nat→Bool,(∀ x∈before,sp x.block=true)→DataW.TrodAll enc P W' 0 sp true f.params.toList args.toList (s.fn H (ds++[])).args p:=λsp hsp=>by
  rw [h2];exact trodAll_stays hl hr hA (λx hx=>hb.same (hlt x (hpb x hx))) (λx hx=>hsp x (hpb x hx))
 have hvars:∀ sp:Nat→Bool,DataW.TrodVars enc P W' sp s.vars (s.fn H (ds++[])).vars []:=λsp=>by rw [hv,h3];rfl
 have hresT:∀ (b:Nat) (sp:Nat→Bool) (hd:Bool),DataW.TrodAll enc P W' b sp hd f.resultTypes.toList ((Value.bool true).resultList f.resultTypes.size) (s.fn H (ds++[])).results []:=λb sp hd=>by
  rw [h1,hres];exact trodAll_cons_mk (shut_bool htb _) trodAll_mk0
 refine ⟨ds,[],before,[],p,[],hW0,hresT _ _ _,hargs _ hold,hvars _,World.keptBut_mono (λx hx=>⟨hx,?_⟩) (hb.frame (·∈before)),λ_=>?_⟩
 ·rw [hpq,List.mem_append] at hx;exact Or.inr hx
 ·refine ⟨ok_one hres rfl (okWide_bool_mk htb _),_,_,([]++p)++[],⟨[]++p,[],trodAll_append (hargs _ (λ_ _=>rfl)) (hresT _ _ _),hvars _,rfl,?_,?_⟩,?_⟩
  ·intro b off hp
   have hin:MemPlace.cell b off∈before:=by rw [hpq];simpa using hp
   rw [hb.frozen (hlt _ hin)];exact hz b off hin
  ·intro ha;cases ha
  ·intro x hx _
   rw [hpq];simpa using hx
end
end Go.Wk
namespace Go.Wk
open Go Go.RowKit Go.WideShapes Go.ChangeShapes
section
variable {H:Type} {enc:TypeId×Value→H} {P:Program} {w:World} {sp:Nat→Bool} {hd:Bool}
def Reads {α:Type} (enc:TypeId×Value→H) (P:Program) (w:World) (sp:Nat→Bool) (hd:Bool) (e:TypeId) (rep:Rep α):Prop:=∀ n cs x,DataW.trod enc P w 0 sp hd n e cs=some x→∃ z,rep.rel All w cs z
theorem list_of {α:Type} {p:Nat→α→Prop}:∀ (n:Nat),(∀ i,i<n→∃ z,p i z)→∃ xs:List α,xs.length=n∧∀ k x,xs[k]?=some x→p k x
 | 0,_=>⟨[],rfl,λk x h=>by simp at h⟩
 | n+1,h=>by
  obtain ⟨xs,h1,h2⟩:=list_of n λi hi=>h i (by omega)
  obtain ⟨z,hz⟩:=h n (by omega);refine ⟨xs++[z],by simp [h1],λk x hx=>?_⟩
  by_cases hk:k<xs.length
  ·rw [List.getElem?_append_left hk] at hx;exact h2 k x hx
  ·rw [List.getElem?_append_right (by omega)] at hx
   have hk0:k-xs.length=0:=by
    rcases Nat.eq_zero_or_pos (k-xs.length) with hh|hh
    ·exact hh
    ·rw [List.getElem?_eq_none (by simp;omega)] at hx;cases hx
   rw [hk0] at hx;simp at hx;subst hx
   have:k=n:=by omega
   subst this;exact hz
end
end Go.Wk
set_option linter.unusedVariables false
set_option linter.unusedSimpArgs false
namespace Go.Wk
open Go Go.RowKit Go.WideShapes Go.ChangeShapes
section
variable {H:Type} {enc:TypeId×Value→H} {P:Program} {w:World} {sp:Nat→Bool} {hd:Bool}
def ReadsP {α:Type} (enc:TypeId×Value→H) (P:Program) (w:World) (sp:Nat→Bool) (hd:Bool) (e:TypeId) (rep:Rep α) (Q:α→Prop):Prop:=∀ n cs x,DataW.trod enc P w 0 sp hd n e cs=some x→∃ z,rep.rel All w cs z∧Q z
theorem reads_bool {t:TypeId} (ht:P.underlying t=some .bool):ReadsP enc P w sp hd t boolR (λ_=>True):=by
 intro n cs x h;obtain ⟨z,rfl,_⟩:=DataW.trod_bool ht h;exact ⟨z,⟨rfl,trivial⟩,trivial⟩
theorem reads_text {t:TypeId} (ht:P.underlying t=some .string):ReadsP enc P w sp hd t textR (λz=>z.length≤maxLen):=by
 intro n cs x h;obtain ⟨s,rfl,_,hw⟩:=DataW.trod_string ht h;refine ⟨s.data.toList,⟨?_,trivial⟩,by simpa using hw⟩;show [Value.string s]=[Str s.data.toList];simp [Str]
theorem reads_slP {α:Type} {rep:Rep α} {Q:α→Prop} {t e:TypeId} (ht:P.underlying t=some (.slice e)) (hsz:P.cellsOf e=rep.sz) (hr:ReadsP enc P w sp hd e rep Q):ReadsP enc P w sp hd t (Rep.sl rep) (λl=>l.length≤maxLen∧∀ z∈l,Q z):=by
 intro n cs x h
 rcases Go.Deep.open_slice ht h with ⟨rfl,_⟩|⟨a,len,cap,m,n',D,Pl,rfl,_,hl,hm,hmm,_,hi⟩
 ·exact ⟨[],⟨none,0,rfl,Nat.le_refl _,Nat.zero_le _,Sl.nil _ _ _ _⟩,Nat.zero_le _,λ_ h=>(by cases h)⟩
 ·have hlm:len≤m:=by rw [hmm];split<;>omega
  obtain ⟨xs,h1,h2⟩:=list_of (p:=λi z=>∃ cs',w.cells? 0 (a.add (i*rep.sz)) rep.sz=some cs'∧rep.rel All w cs' z∧Q z) len (λi hlt=>by
   obtain ⟨cs',hc,htr⟩:=hi i (by omega);rw [hsz] at hc;obtain ⟨z,hz⟩:=hr _ _ _ htr
   exact ⟨z,cs',hc,hz⟩)
  subst h1
  have hQ:xs.length≤maxLen∧∀ z∈xs,Q z:=⟨Nat.le_trans hl hm,λz hz=>by
   obtain ⟨k,hk,rfl⟩:=List.getElem_of_mem hz;obtain ⟨_,_,_,hq⟩:=h2 k _ (List.getElem?_eq_getElem hk)
   exact hq⟩
  refine ⟨xs,⟨some a,cap,rfl,hl,hm,λhne=>?_⟩,hQ⟩
  have hnone:a.spot=none:=by
   cases xs with
   | nil=>exact (hne rfl).elim
   | cons z r=>
    obtain ⟨cs',hc,hz,_⟩:=h2 0 z rfl;obtain ⟨_,hlen,hcell⟩:=World.cells?_some hc;have h0:=hcell 0 rep.pos;have hpos:=rep.pos;obtain ⟨b,o,s⟩:=a
    cases s with
    | none=>rfl
    | some s=>
     have hx:cs'[0]?=some cs'[0]:=List.getElem?_eq_getElem (by omega);rw [hx] at h0;simp only [World.cell?,Addr.add,Nat.zero_mul,if_true] at h0
     split at h0<;>simp at h0
  obtain ⟨b,o,s⟩:=a
  cases hnone
  refine ⟨b,o,rfl,trivial,λk x hx=>?_⟩;obtain ⟨cs',hc,hz,_⟩:=h2 k x hx;obtain ⟨_,hlen,hcell⟩:=World.cells?_some hc;refine ⟨cs',λj v hv=>?_,hz⟩
  have hj:j<rep.sz:=by rw [← hlen];exact lt_of_get hv
  have:=hcell j hj;rw [Addr.add_none,Addr.add_none] at this;rw [this];exact hv
theorem two_at {α β:Type} {r:Rep α} {r':Rep β} {D:Nat→Prop} {cs:List Value} {x:α} {y:β} (o s:Nat) (h:r.rel D w ((cs.drop o).take s) x) (h':r'.rel D w (cs.drop (o+s)) y):(Rep.two r r').rel D w (cs.drop o) (x,y):=
 ⟨(cs.drop o).take s,cs.drop (o+s),by rw [← List.drop_drop,List.take_append_drop],h,h'⟩
theorem last_at {α:Type} {r:Rep α} {D:Nat→Prop} {cs:List Value} {x:α} (o s:Nat) (hl:cs.length=o+s) (h:r.rel D w ((cs.drop o).take s) x):r.rel D w (cs.drop o) x:=by
 rw [List.take_of_length_le (by simp;omega)] at h;exact h
theorem some_at {α:Type} {xs:List α} {n:Nat} (i:Nat) (hl:xs.length=n) (h:i<n):∃ y,xs[i]?=some y:=⟨xs[i]'(by omega),List.getElem?_eq_getElem (by omega)⟩
theorem arg_slice {α:Type} {rep:Rep α} {Q:α→Prop} {t e:TypeId} {v:Value} {r:Reach} {b0:Nat} {d:DataW H} {p:List MemPlace} (ht:P.underlying t=some (.slice e)) (hsz:P.cellsOf e=rep.sz) (hr:ReadsP enc P w sp hd e rep Q) (hval:Value.okWide P w r b0 t v) (h:DataW.Trod enc P w 0 sp hd t v d p) :
 ∃ (l:List α) (A:Option Addr) (c:Nat),v=.slice A l.length c∧(slR A c rep l).H All w∧l.length≤maxLen∧∀ z∈l,Q z:=by
 obtain ⟨ad,len,cap,rfl⟩:=okWide_slice ht hval;obtain ⟨f,hf⟩:=h;obtain ⟨l,⟨A,c,hcs,hlc,hcm,hS⟩,hq⟩:=reads_slP ht hsz hr _ _ _ hf;exact ⟨l,A,c,by simpa [Value.cells] using hcs,⟨hlc,hcm,hS⟩,hq⟩
end
end Go.Wk
