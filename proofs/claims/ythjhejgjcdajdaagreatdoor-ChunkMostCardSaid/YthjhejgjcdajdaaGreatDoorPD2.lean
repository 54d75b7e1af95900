import Derived.Test.YthjhejgjcdajdaaGreatDoorND
import Derived.Sort.Walk0
import Derived.Test.YthjhejgjcdajdaaGreatDoorPD1
import Derived.Test.YthjhejgjcdajdaaGreatDoorVD2
set_option linter.unusedVariables false
set_option linter.unusedSimpArgs false
namespace Go.Proofs.YthjhejgjcdajdaaGreatDoor
open Go Go.RowKit Go.Wk
abbrev Txt:=List UInt8
abbrev Pr:=zA
def zR4 (c:UInt8):Bool:=decide (97≤c.toNat)&&decide (c.toNat≤122)
def nmC (c:UInt8):Bool:=zR4 c||(decide (48≤c.toNat)&&decide (c.toNat≤57))||decide (c.toNat=95)||decide (c.toNat=46)
def zHn (s:Txt):Bool:=decide (s.length≤32)&&match s with | []=>false | c::t=>zR4 c&&t.all nmC
def zbq (c:UInt8):Bool:=decide (33≤c.toNat)&&decide (c.toNat≤126)&&decide (c.toNat≠61)&&decide (c.toNat≠59)&&decide (c.toNat≠44)
def zPi (s:Txt):Bool:=decide (s.length≤32)&&decide (1≤s.length)&&s.all zbq
theorem zSx (c:UInt8):zGe c=some (zR4 c):=by unfold zGe zR4;rw [← Bool.decide_and];congr 1;apply decide_eq_decide.2;omega
theorem zMt (s:Txt):zEh s=some (zHn s):=by
 unfold zEh;simp only [zBm]
 split
 ·rename_i h;rcases h with rfl | h<;>simp [zHn];omega
 ·rename_i h
  match s,h with
  | c::t,h=>
   simp only [not_or] at h;have hb:=h.2;rw [idx0,zAn,zSx,zAn,zTf (by omega),zAn,zKx _ _ (by omega),zL3 nmC (some false)]
   ·have:(c::t).length≤32:=by omega
    have hn:zR4 c=true→nmC c=true:=fun h=>by simp [nmC,h]
    unfold zHn
    cases hc:zR4 c<;>simp_all
    split<;>simp_all
   ·intro i x k _
    rw [zAn,zSx,zAn]
    refine zVu ?_ (fun _=>rfl) fun _=>rfl
    simp [nmC];grind
theorem zQ2 (s:Txt):zFc s=some (zPi s):=by
 unfold zFc;simp only [zBm]
 split
 ·rename_i h;rcases h with rfl | h<;>simp [zPi];omega
 ·rename_i h
  simp only [not_or] at h;have hb:=h.2;have:=List.length_pos_iff.2 h.1;rw [zTf (by omega),zAn,zKj _ _ (by omega),zL3 zbq (some false)]
  ·unfold zPi;split<;>simp_all<;>omega
  ·intro i x k _
   simp only [zAn,zBm,zbq]
   grind
theorem zPz (s:Txt):zCw s=some (zHn s):=by
 unfold zCw;simp only [zBm]
 split
 ·rename_i h
  match s with
  | []=>rfl
  | c::t=>unfold zHn;simp at h ⊢;grind
 ·rename_i h
  rw [zIb _ _ (by omega)]
  match s with
  | []=>simp at h
  | c::t=>
   unfold zF2;simp only [zOp,zAn];rw [zT1 nmC (some false)]
   ·unfold zHn zR4;simp at h ⊢;grind
   ·intro i x k hi _
    refine zVu ?_ (fun _=>rfl) fun _=>rfl
    simp [nmC,zR4];omega
theorem zS3 (s:Txt):zDc s=some (zPi s):=by
 unfold zDc;simp only [zBm]
 split
 ·rename_i h;unfold zPi;simp;omega
 ·rename_i h
  rw [zHs _ _ (by omega),zL3 zbq (some false)]
  ·unfold zPi;split<;>simp_all<;>omega
  ·intro i x k _
   simp only [zAn,zbq]
   grind
def chk:List Pr→List Pr→Int
 | _,[]=>0
 | p,a::l=>if (zHn a.Key&&zPi a.Val)=true then (if p.any (fun b=>decide (b.Key=a.Key))=true then 8 else chk (p++[a]) l) else 3
def zIt (name:Txt) (l:List Pr):Int:=if zHn name=true then (if l.length>4 then 4 else chk [] l) else 3
theorem zSh (l:List Pr) (a:Pr) (h:l.length<4611686018427387904):zBj l a=some (l.any fun b=>decide (b.Key=a.Key)):=by
 unfold zBj zCo;rw [zBm,zF0 _ _ _ h];rw [zJy (fun p q _=>some (if q.any (fun b=>decide (b.Key=a.Key))=true then ((p.length+q.findIdx fun b=>decide (b.Key=a.Key):Nat):Int) else -1)) ?_ ?_]
 ·cases h:l.any (fun b=>decide (b.Key=a.Key))<;>simp [zAn]
 ·intro s;rfl
 ·intro p x q _ k _ hk
  simp only [zAn,zHb,hk]
  by_cases hx:x.Key=a.Key
  ·simp [hx,List.findIdx_cons]
  ·simp [hx,List.findIdx_cons];congr 1;omega
theorem zTr (name:Txt) (l:List Pr):zHc name l=some (zIt name l):=by
 unfold zHc zIt;rw [zMt,zAn]
 by_cases hn:zHn name=true
 ·rw [hn,if_neg (by simp),if_pos rfl]
  by_cases hl:l.length>4
  ·rw [if_pos (by omega),if_pos hl]
  rw [if_neg (by omega),if_neg hl,zBm,zLa _ _ (by omega)];refine zJy (fun p q _=>some (chk p q)) (fun _=>rfl) ?_;intro p x q _ k hp hk;subst hp;simp only [zAn,zMt,zQ2,zBm,zSg,zSh p x (by simp at hl;omega),hk,chk]
  cases zHn x.Key<;>cases zPi x.Val<;>simp
  split<;>rfl
 ·simp at hn
  rw [hn];rfl
end Go.Proofs.YthjhejgjcdajdaaGreatDoor
set_option linter.unusedVariables false
set_option linter.unusedSimpArgs false
namespace Go.Proofs.YthjhejgjcdajdaaGreatDoor
open Go Go.RowKit Go.Wk
def zMu (a:Pr):List Pr→List Pr
 | []=>[a]
 | b::l=>if Op.bytesLess a.Key b.Key=true then b::zMu a l else a::b::l
def srt (l:List Pr):List Pr:=(l.foldl (fun acc a=>zMu a acc) []).reverse
theorem zT {α:Type} {p:List α} {x y:α} {q:List α} {i:Int} (h:i=p.length):zGq (p++x::q) i y=p++y::q:=by subst h;simp [zGq]
theorem zTx (a b:Pr):zE3 a b=some (if Op.bytesLess a.Key b.Key=true then -1 else if Op.bytesLess b.Key a.Key=true then 1 else 0):=by
 simp [zE3,zGn,zG1];grind
theorem zcj (j:List Pr→Option (List Pr)) (x:Pr):∀ (pre rest:List Pr) (n:Nat),pre.length<n→pre.length<4611686018427387904 →
 zAp 0 j n (pre.reverse++x::rest) (pre.length:Int)=j ((zMu x pre).reverse++rest)
 | [],rest,n,h,_=>by
  obtain ⟨n,rfl⟩:∃ m,n=m+1:=⟨n-1,by omega⟩;rw [zAp,zBm,if_neg (by simp)];rfl
 | b::pre,rest,n,h,hb=>by
  obtain ⟨n,rfl⟩:∃ m,n=m+1:=⟨n-1,by omega⟩;simp only [List.length_cons] at h hb
  have e1:(b::pre).reverse++x::rest=(pre.reverse++[b])++x::rest:=by simp
  have e2:(b::pre).reverse++x::rest=pre.reverse++b::(x::rest):=by simp
  have e3:pre.reverse++b::b::rest=(pre.reverse++[b])++b::rest:=by simp
  have i1:idx ((b::pre).reverse++x::rest) ((b::pre).length:Int)=some x:=by rw [e1];exact zOf (by simp)
  have w1:W64 (((b::pre).length:Int)-1)=(pre.length:Int):=by rw [List.length_cons,zAr (by omega) (by omega)];omega
  have i2:idx ((b::pre).reverse++x::rest) (pre.length:Int)=some b:=by rw [e2];exact zOf (by simp)
  rw [zAp,zBm,if_pos (by simp only [List.length_cons];omega),i1,zAn,w1,i2,zAn,zTx,zAn,zAn,zAn]
  have s1:zGq ((b::pre).reverse++x::rest) ((b::pre).length:Int) b=pre.reverse++b::b::rest:=by rw [e1,zT (by simp)];simp
  rw [s1,zOf (by simp),zAn,zT (by simp),show pre.reverse++x::b::rest=pre.reverse++x::(b::rest) from rfl,zcj j x pre (b::rest) n (by omega) (by omega)];rw [zMu]
  by_cases hx:Op.bytesLess x.Key b.Key=true
  ·simp [hx]
  ·simp [hx];grind
theorem zck (j:List Pr→Option (List Pr)) (N:Nat) (hN:N<4611686018427387904):∀ (q p:List Pr) (n:Nat),q.length<n→p.length+q.length=N →
 zAo 0 N j n (p.reverse++q) (p.length:Int)=j (q.foldl (fun acc a=>zMu a acc) p).reverse
 | [],p,n,h,hl=>by
  obtain ⟨n,rfl⟩:∃ m,n=m+1:=⟨n-1,by omega⟩;rw [zAo,if_neg (by simp at hl;omega)];simp
 | x::q,p,n,h,hl=>by
  obtain ⟨n,rfl⟩:∃ m,n=m+1:=⟨n-1,by omega⟩;simp only [List.length_cons] at h hl
  have hlen:∀ p:List Pr,(zMu x p).length=p.length+1:=by
   intro p
   induction p with
   | nil=>rfl
   | cons b p ih=>unfold zMu;split<;>simp [ih]
  rw [zAo,if_pos (by omega),zBm,zcj _ x p q _ (by unfold fuel;omega) (by omega)];have:=zck j N hN q (zMu x p) n (by omega) (by rw [hlen];omega);rw [hlen] at this;rw [zDo (by omega),this,List.foldl_cons]
theorem zQ3 (l:List Pr) (h:l.length<4611686018427387904):zB1 l 0 l.length=some (srt l):=by
 unfold zB1;rw [zBm,show W64 (0+1)=1 by decide]
 match l with
 | []=>rfl
 | x::l=>exact zck some (x::l).length h l [x] fuel (by unfold fuel;simp at h;omega) (by simp;omega)
theorem zTi (x:Pr):∀ p:List Pr,(zMu x p).length=p.length+1
 | []=>rfl
 | b::p=>by unfold zMu;split<;>simp [zTi x p]
theorem zM3 (l:List Pr):(srt l).length=l.length:=by
 have:∀ (l p:List Pr),(l.foldl (fun acc a=>zMu a acc) p).length=p.length+l.length:=by
  intro l
  induction l with
  | nil=>intro p;rfl
  | cons x l ih=>intro p;rw [List.foldl_cons,ih,zTi,List.length_cons];omega
 unfold srt;rw [List.length_reverse,this];simp
theorem zUr (l:List Pr) (h:l.length≤20):zCf l l.length=some (srt l):=by
 obtain ⟨F,hF⟩:∃ m,fuel=m+2:=zM9 2 (by omega);unfold zCf;simp only [zBm];rw [hF,zB]
 by_cases h20:l.length=20
 ·rw [if_pos (by omega),show (20:Int)=(l.length:Int) by omega,zQ3 l (by omega),zAn,zB,if_neg (by rw [zAr (by omega) (by omega)];omega)]
  rw [zB1,zBm];rw [hF,zAo,if_neg (by rw [zAr (by omega) (by omega)];omega),zAn,zB0,if_neg (by omega)]
 ·rw [if_neg (by omega),zQ3 l (by omega),zAn,zB0,if_neg (by omega)]
theorem zUu (l:List Pr) (h:l.length≤20):zI3 l=some (srt l):=by
 unfold zI3 zBz zC2;rw [zDg (by simp;omega),zAn,List.nil_append,zUr l h];rfl
theorem zc7 (x0:List Pr) (y:Int) (a:Pr) (ha:idx x0 y=some a) (j:Int→Option (List Pr)) (post:List Pr):∀ (pre:List Pr) (n:Nat),pre.length<n→pre.length<4611686018427387904 →
 zBg x0 (pre.reverse++post) y j n (pre.length:Int)=j ((pre.dropWhile fun b=>Op.bytesLess a.Key b.Key).length:Nat)
 | [],n,h,_=>by
  obtain ⟨n,rfl⟩:∃ m,n=m+1:=⟨n-1,by omega⟩;rw [zBg,zBm,if_neg (by simp)];rfl
 | b::pre,n,h,hb=>by
  obtain ⟨n,rfl⟩:∃ m,n=m+1:=⟨n-1,by omega⟩;simp only [List.length_cons] at h hb
  have w1:W64 (((b::pre).length:Int)-1)=(pre.length:Int):=by rw [List.length_cons,zAr (by omega) (by omega)];omega
  have e2:(b::pre).reverse++post=pre.reverse++b::post:=by simp
  rw [zBg,zBm,if_pos (by simp only [List.length_cons];omega),w1,e2,zOf (by simp),zAn,ha,zAn];dsimp only
  by_cases hx:Op.bytesLess a.Key b.Key=true
  ·rw [if_pos hx,List.dropWhile_cons,if_pos hx]
   have:=zc7 x0 y a ha j (b::post) pre n (by omega) (by omega);simpa using this
  ·rw [if_neg hx,List.dropWhile_cons,if_neg hx]
theorem zU4 (a:Pr) (p:List Pr):zMu a p=(p.takeWhile fun b=>Op.bytesLess a.Key b.Key)++a::(p.dropWhile fun b=>Op.bytesLess a.Key b.Key):=by
 induction p with
 | nil=>rfl
 | cons b p ih=>unfold zMu;split<;>simp_all
theorem zNn (l:List Pr) (h:l.length≤1048576):zD3 l=some (srt l):=by
 unfold zD3;rw [zBm,zHh _ _ _ (by omega)];rw [zMh (fun p s=>s.length=p.length) (fun _ q s=>some (q.foldl (fun acc a=>zMu a acc) s.reverse).reverse) rfl (fun s _=>by simp)]
 ·rfl
 ·intro p x q s k hp hs hk
  subst hp;have hx:idx (p++x::q) (p.length:Int)=some x:=zGp p x q;have hr:=zc7 (p++x::q) (p.length:Int) x hx;obtain ⟨pre,rfl⟩:∃ pre,s=pre.reverse:=⟨s.reverse,by simp⟩
  have hr:=fun j=>hr j [] pre fuel (by unfold fuel;simp at hs h;omega) (by simp at hs h;omega)
  simp only [List.append_nil] at hr;rw [zBm,List.length_reverse,hr];have hd:pre=(pre.takeWhile fun b=>Op.bytesLess x.Key b.Key)++(pre.dropWhile fun b=>Op.bytesLess x.Key b.Key):=(List.takeWhile_append_dropWhile ..).symm;have hsp:=zU4 x pre;generalize (pre.takeWhile fun b=>Op.bytesLess x.Key b.Key)=u at hd hsp;generalize (pre.dropWhile fun b=>Op.bytesLess x.Key b.Key)=v at hd hsp
  have hl:u.length+v.length≤1048576:=by
   have:=congrArg List.length hd;simp at this hs h;omega
  have e1:pre.reverse=v.reverse++u.reverse:=by rw [hd];simp
  have c1:zM2 pre.reverse 0 (v.length:Int)=some v.reverse:=by rw [e1];have:=zSg v.reverse u.reverse;simpa using this
  have c2:zM2 pre.reverse (v.length:Int) (pre.length:Nat)=some u.reverse:=by rw [e1,show pre.length=(v.reverse++u.reverse).length by rw [hd];simp;omega];have:=zW4 v.reverse u.reverse;rw [List.length_reverse] at this;exact this
  rw [c1,zAn,zDg (by simp;omega),zAn,zAn,zDg (by simp;omega),zAn,c2,zAn,zDg (by simp;omega),zAn,hk]
  ·rw [List.foldl_cons];simp [hsp]
  ·have:=congrArg List.length hd;simp at this hs ⊢;omega
end Go.Proofs.YthjhejgjcdajdaaGreatDoor
set_option linter.unusedVariables false
set_option linter.unusedSimpArgs false
namespace Go.Proofs.YthjhejgjcdajdaaGreatDoor
open Go Go.RowKit Go.Wk
theorem zZ4 (l:List Pr) (x:Pr) (y:Nat) (hx:idx l (y:Int)=some x) (j:Unit→Option Int):∀ (b a q:List Pr) (n:Nat),l=a++b++q→y=(a++b).length→b.length<n→l.length<4611686018427387904 →
 zBk l y j n (a.length:Int)=if b.any (fun b=>decide (b.Key=x.Key))=true then some 8 else j ()
 | [],a,q,n,hl,hy,h,_=>by
  obtain ⟨n,rfl⟩:∃ m,n=m+1:=⟨n-1,by omega⟩;rw [zBk,if_neg (by simp at hy;omega)];rfl
 | z::b,a,q,n,hl,hy,h,hb=>by
  obtain ⟨n,rfl⟩:∃ m,n=m+1:=⟨n-1,by omega⟩;simp only [List.length_cons] at h
  have hz:idx l (a.length:Int)=some z:=by rw [hl,List.append_assoc];exact zGp _ _ _
  have ih:=zZ4 l x y hx j b (a++[z]) q n (by rw [hl];simp) (by rw [hy];simp) (by omega) hb;rw [zBk,if_pos (by rw [hy];simp;omega),hz,zAn,hx,zAn,zDo (by simp [hl] at hb;omega)];rw [List.length_append,List.length_singleton] at ih;rw [ih,List.any_cons]
  by_cases hk:z.Key=x.Key<;>simp [hk]
theorem zS4 (name:Txt) (l:List Pr):zE9 name l=some (zIt name l):=by
 unfold zE9 zIt;rw [zPz,zAn]
 by_cases hn:zHn name=true
 ·rw [hn,if_neg (by simp),if_pos rfl]
  by_cases hl:l.length>4
  ·rw [if_pos (by omega),if_pos hl]
  rw [if_neg (by omega),if_neg hl,zBm,zHu _ _ (by omega)];refine zJy (fun p q _=>some (chk p q)) (fun _=>rfl) ?_;intro p x q _ k hp hk
  have h2:=fun j=>zZ4 l x p.length (by rw [← hp];exact zGp _ _ _) j p [] (x::q) fuel (by simpa using hp.symm) (by simp) (by unfold fuel;simp [← hp] at hl;omega) (by omega)
  simp only [List.length_nil,Int.natCast_zero,Int.cast_ofNat_Int] at h2;simp only [zAn,zPz,zS3,zBm,h2,hk,chk]
  cases zHn x.Key<;>cases zPi x.Val<;>simp
  split<;>rfl
 ·simp at hn
  rw [hn];rfl
def zRl (l:List Pr):Bool:=decide (l.length≤20)&&l.all fun a=>decide (a.Key.length≤100)&&decide (a.Val.length≤100)
theorem zXz (l:List Pr):zE8 l=some (zRl l):=by
 unfold zE8 zRl
 by_cases h:l.length≤20
 ·rw [if_neg (by omega),zBm,zHt _ _ (by omega),zL3 (fun a=>decide (a.Key.length≤100)&&decide (a.Val.length≤100)) (some false)]
  ·simp [h];grind
  ·intro i x k _
   simp only [zBm,zAn]
   grind
 ·rw [if_pos (by omega)];simp [h]
def at1 (a:Pr):Txt:=[59]++a.Key++[61]++a.Val
def zJu (l:List Pr):Txt:=l.flatMap at1
theorem zPx (a:Pr) (l:List Pr):zJu (a::l)=at1 a++zJu l:=by simp [zJu]
theorem zb6 (a:Pr):(at1 a).length=a.Key.length+a.Val.length+2:=by simp [at1];omega
theorem textL (l:List Pr) (h:l.length≤4) (hs:∀ a∈l,a.Key.length≤32∧a.Val.length≤32) (s:Txt) (hs0:s.length≤1000) (j:Txt→Option (Txt×Int)) (hj:∀ s,j s=some (s,0)) :
 zCb l j fuel 0 s=some (s++zJu l,0):=by
 rw [zLx _ _ _ (by omega)];refine zMh (fun p t=>t.length≤1000+66*p.length) (fun _ q t=>some (t++zJu q,0)) (by simp;omega) (fun s _=>by simp [hj,zJu]) ?_;intro p x q t k hp ht hk;have hx:=hs x (by simp [← hp])
 have hpl:p.length≤4:=by rw [← hp] at h;simp at h;omega
 rw [zAn,zN0 (by simp;omega),zAn,zN0 (by simp;omega),zAn,zN0 (by simp;omega),zAn,zDg (by simp;omega),zAn,hk]
 ·rw [zPx];simp [at1]
 ·simp;omega
theorem zMp {s:Txt} (h:zHn s=true):s.length≤32:=by unfold zHn at h;simp at h;exact h.1
theorem zSr {s:Txt} (h:zPi s=true):s.length≤32:=by unfold zPi at h;simp at h;exact h.1.1
theorem zW8:∀ (l p:List Pr),chk p l=0→∀ a∈l,zHn a.Key=true∧zPi a.Val=true∧∀ b∈p,b.Key≠a.Key
 | [],p,_,a,ha=>by cases ha
 | x::l,p,h,a,ha=>by
  rw [chk] at h
  split at h
  ·rename_i hx
   split at h
   ·cases h
   ·rename_i hp
    rcases List.mem_cons.1 ha with rfl|ha
    ·simp at hx hp;exact ⟨hx.1,hx.2,hp⟩
    ·have:=zW8 l (p++[x]) h a ha
     exact ⟨this.1,this.2.1,fun b hb=>this.2.2 b (by simp [hb])⟩
  ·cases h
theorem zN {name:Txt} {l:List Pr} (h:zIt name l=0):zHn name=true∧l.length≤4∧chk [] l=0:=by
 unfold zIt at h
 split at h
 ·split at h
  ·cases h
  ·exact ⟨by assumption,by omega,h⟩
 ·cases h
theorem zQi (x a:Pr):∀ p:List Pr,a∈zMu x p↔a=x∨a∈p
 | []=>by simp [zMu]
 | b::p=>by unfold zMu;split<;>simp [zQi x a p];grind
theorem zUs (a:Pr) (l:List Pr):a∈srt l↔a∈l:=by
 have:∀ (l p:List Pr),a∈(l.foldl (fun acc a=>zMu a acc) p)↔a∈p∨a∈l:=by
  intro l
  induction l with
  | nil=>intro p;simp
  | cons x l ih=>intro p;rw [List.foldl_cons,ih,zQi];simp;grind
 unfold srt;rw [List.mem_reverse,this];simp
def text (name:Txt) (l:List Pr):Txt×Int:=if zIt name l=0 then (name++zJu (srt l),0) else ([],zIt name l)
theorem zZt (name:Txt) (l:List Pr):zIc name l=some (text name l):=by
 unfold zIc text;rw [zTr,zAn]
 by_cases h:zIt name l=0
 ·rw [if_neg (by omega),if_pos h]
  obtain ⟨h1,h2,h3⟩:=zN h;have h4:=zMp h1;rw [zDg (by simp;omega),zAn,zUu l (by omega),zAn,zBm,List.nil_append]
  refine textL _ (by rw [zM3];exact h2) (fun a ha=>?_) name (by omega) _ fun _=>rfl
  have:=zW8 l [] h3 a ((zUs a l).1 ha);exact ⟨zMp this.1,zSr this.2.1⟩
 ·rw [if_pos h,if_neg h]
theorem za1 (a b:List Pr) (h:a.length<4611686018427387904):zEq a b=some (decide (a=b)):=by
 unfold zEq
 by_cases hl:a.length=b.length
 ·rw [if_neg (by omega),zBm,zIa _ _ _ h]
  rw [zJy (fun p q _=>some (decide (q=b.drop p.length))) ?_ ?_]
  ·simp
  ·intro s;simp [hl]
  ·intro p x q _ k hp hk
   rw [hk]
   have:p.length<b.length:=by rw [← hl,← hp];simp
   rw [zH2 this,zAn,zAn,List.drop_eq_getElem_cons this,List.length_append,List.length_singleton]
   by_cases hx:x=b[p.length]
   ·rw [if_neg (fun h=>h hx)];congr 1;apply decide_eq_decide.2;rw [List.cons.injEq];exact ⟨fun h=>⟨hx,h⟩,fun h=>h.2⟩
   ·rw [if_pos hx,decide_eq_false];rw [List.cons.injEq];exact fun h=>hx h.1
 ·rw [if_pos (by omega)]
  have:a≠b:=fun h=>hl (by rw [h])
  simp [this]
end Go.Proofs.YthjhejgjcdajdaaGreatDoor
set_option linter.unusedVariables false
set_option linter.unusedSimpArgs false
namespace Go.Proofs.YthjhejgjcdajdaaGreatDoor
open Go Go.RowKit Go.Wk
def zFs (c:UInt8):Txt→Txt×Txt×Bool
 | []=>([],[],false)
 | x::s=>if x=c then ([],s,true) else (x::(zFs c s).1,(zFs c s).2)
theorem zW5 {c:UInt8}:∀ {s:Txt},(zFs c s).2.2=false→zFs c s=(s,[],false)
 | [],_=>rfl
 | x::s,h=>by
  unfold zFs at h ⊢
  split at h
  ·cases h
  ·rename_i hx;rw [if_neg hx,zW5 h]
theorem zQs {c:UInt8}:∀ {s:Txt},(zFs c s).2.2=true→s=(zFs c s).1++c::(zFs c s).2.1
 | [],h=>by cases h
 | x::s,h=>by
  unfold zFs at h ⊢
  split at h
  ·rename_i hx;rw [if_pos hx,hx];rfl
  ·rename_i hx;rw [if_neg hx];have:=zQs h;show x::s=x::((zFs c s).1++c::(zFs c s).2.1);rw [← this]
theorem zOh {c:UInt8}:∀ {s:Txt},(zFs c s).1.length+(zFs c s).2.1.length≤s.length
 | []=>by simp [zFs]
 | x::s=>by
  unfold zFs
  split
  ·simp
  ·have:=zOh (c:=c) (s:=s);simp;omega
theorem zMv (c:UInt8):∀ s:Txt,Lib.indexByte s c=if (zFs c s).2.2=true then ((zFs c s).1.length:Int) else -1
 | []=>rfl
 | x::s=>by
  unfold Lib.indexByte zFs
  by_cases hx:x=c
  ·simp [hx]
  ·rw [zMv c s]
   simp only [hx,beq_iff_eq,if_false]
   split
   ·rw [if_neg (by omega),List.length_cons];simp
   ·simp
theorem zMg (s:Txt) (c:UInt8) (h:s.length<4611686018427387904):zFk s [c]=some (zFs c s):=by
 have key:zD8 s [c]=some (if (zFs c s).2.2=true then ((zFs c s).1.length:Int) else -1):=by
  unfold zD8
  by_cases hs:[c]=s
  ·rw [if_pos (.inr hs),← hs];simp [zFs]
  ·rw [if_neg (by simp [hs]),if_pos (show (([c]:Txt).length:Int)=1 from rfl),idx0,zAn,zDf,zAn,zMv]
 unfold zFk zEu;rw [key,zAn]
 by_cases hf:(zFs c s).2.2=true
 ·have h1:=zQs hf
  have hl:=congrArg List.length h1;simp at hl
  have c1:zM2 s 0 ((zFs c s).1.length:Int)=some (zFs c s).1:=by
   conv=>lhs;arg 1;rw [h1]
   exact zSg _ _
  have c2:zM2 s (((zFs c s).1.length:Int)+1) (s.length:Nat)=some (zFs c s).2.1:=by
   have:=zW4 ((zFs c s).1++[c]) (zFs c s).2.1;rw [List.append_assoc,List.singleton_append,← h1] at this;simpa using this
  rw [if_pos hf,if_pos (by omega),c1,zAn];show ((zM2 s (W64 (((zFs c s).1.length:Int)+1)) (s.length:Nat)).bind _).bind _=_;rw [zAr (by omega) (by omega),c2,zAn,zAn];simp [← hf]
 ·have h1:=zW5 (by simpa using hf:(zFs c s).2.2=false)
  rw [if_neg hf,if_neg (by omega),zAn,h1]
def zQ (s:Txt):Option Pr:=if ((zFs 61 s).2.2&&zHn (zFs 61 s).1&&zPi (zFs 61 s).2.1)=true then some ⟨(zFs 61 s).1,(zFs 61 s).2.1⟩ else none
theorem za9 (s:Txt) (h:s.length<4611686018427387904):zJq s=some (match zQ s with | some a=>(a,0) | none=>(⟨[],[]⟩,3)):=by
 unfold zJq zQ;rw [zMg s _ h,zAn];simp only [zBm,zMt,zQ2,zAn]
 cases (zFs 61 s).2.2<;>cases zHn (zFs 61 s).1<;>cases zPi (zFs 61 s).2.1<;>simp
def zZg (l:List Pr) (key:Txt):Int:=if l.any (fun b=>decide (b.Key=key))=true then 8 else match l.getLast? with | some b=>if Op.bytesLess key b.Key=true then 9 else 0 | none=>0
theorem zU7 (l:List Pr) (key:Txt) (h0:l≠[]) (h:l.length<4611686018427387904):zHa l key=some (zZg l key):=by
 unfold zHa zZg;rw [zBm,zKk _ _ _ h,zL3 (fun b=>!decide (b.Key=key)) (some 8)]
 ·obtain ⟨b,hb⟩:∃ b,l.getLast?=some b:=⟨_,List.getLast?_eq_some_getLast h0⟩
  have hp:=List.length_pos_iff.2 h0
  have hi:idx l (W64 ((l.length:Int)-1))=some b:=by
   rw [zAr (by omega) (by omega),show (l.length:Int)-1=((l.length-1:Nat):Int) by omega,zNg,← List.getLast?_eq_getElem?];exact hb
  rw [hi,zAn,hb]
  by_cases ha:l.any (fun b=>decide (b.Key=key))=true
  ·rw [if_pos ha,if_neg]
   simp at ha ⊢;exact ha
  ·rw [if_neg ha,if_pos]
   ·show (if _ then _ else _)=some (if _ then _ else _)
    split<;>rfl
   ·simp at ha ⊢;exact ha
 ·intro i x k _
  rw [zAn]
  by_cases hx:x.Key=key<;>simp [hx]
def spl:Txt→Txt×List Txt
 | []=>([],[])
 | x::s=>if x=59 then ([],(spl s).1::(spl s).2) else (x::(spl s).1,(spl s).2)
def zOu (more:Bool) (rest:Txt):List Txt:=if more=true then (spl rest).1::(spl rest).2 else []
theorem zS2:∀ s,(zFs 59 s).1=(spl s).1∧zOu (zFs 59 s).2.2 (zFs 59 s).2.1=(spl s).2
 | []=>⟨rfl,rfl⟩
 | x::s=>by
  unfold zFs spl
  by_cases hx:x=59
  ·rw [if_pos hx,if_pos hx];exact ⟨rfl,rfl⟩
  ·rw [if_neg hx,if_neg hx];have:=zS2 s;exact ⟨by simp [this.1],this.2⟩
theorem zQb:∀ s,s=(spl s).1++(spl s).2.flatMap (fun p=>59::p)
 | []=>rfl
 | x::s=>by
  unfold spl
  by_cases hx:x=59
  ·rw [if_pos hx];show x::s=[]++(59::(spl s).1++(spl s).2.flatMap (fun p=>59::p));rw [hx,List.nil_append,List.cons_append,← zQb s]
  ·rw [if_neg hx];show x::s=x::((spl s).1++_);rw [← zQb s]
abbrev Res:=Txt×List Pr×Int×Int
def pgo (name:Txt):List Pr→Int→List Txt→Res
 | l,_,[]=>(name,l,0,0)
 | l,at_,p::ps=>
  if l.length=4 then ([],[],at_,4) else
  match zQ p with
  | none=>([],[],at_,3)
  | some a=>if zZg l a.Key=0 then pgo name (l++[a]) (at_+p.length+1) ps else ([],[],at_,zZg l a.Key)
def zPk (s:Txt):Res:=if zHn (spl s).1=true then pgo (spl s).1 [] ((spl s).1.length+1) (spl s).2 else ([],[],0,3)
theorem zcb (name:Txt) (j:List Pr→Option Res) (hj:∀ l,j l=some (name,l,0,0)):∀ (n:Nat) (l:List Pr) (at_:Int) (rest:Txt) (more:Bool),(if more=true then 1+rest.length else 0)<n→l.length≤4→0≤at_→at_+rest.length≤1000000 →
 zD0 j n l at_ rest more=some (pgo name l at_ (zOu more rest)):=by
 intro n
 induction n with
 | zero=>intro l at_ rest more h;omega
 | succ n ih=>
  intro l at_ rest more h hl h0 h1;rw [zD0]
  cases more with
  | false=>rw [if_neg (by simp),hj];rfl
  | true=>
   rw [if_pos rfl] at h ⊢;obtain ⟨e1,e2⟩:=zS2 rest;have hcl:=zOh (c:=59) (s:=rest)
   have hpo:zOu true rest=(zFs 59 rest).1::zOu (zFs 59 rest).2.2 (zFs 59 rest).2.1:=by rw [e1,e2];rfl
   rw [zMg rest _ (by omega),zAn,za9 _ (by omega),zAn,hpo,pgo];simp only [zBm]
   have hmore:(if (zFs 59 rest).2.2=true then 1+(zFs 59 rest).2.1.length else 0)<n∧((zFs 59 rest).2.2=true→(zFs 59 rest).1.length+(zFs 59 rest).2.1.length+1=rest.length):=by
    by_cases hm:(zFs 59 rest).2.2=true
    ·have hc:=congrArg List.length (zQs hm)
     simp at hc;rw [if_pos hm];omega
    ·rw [if_neg hm];exact ⟨by omega,fun h=>absurd h hm⟩
   generalize (zFs 59 rest).1=pt at *;generalize (zFs 59 rest).2.1=rst at *;generalize (zFs 59 rest).2.2=mr at *
   by_cases h4:l.length=4
   ·rw [if_pos (by omega),if_pos h4,if_neg (by simp),if_pos (by simp)]
   ·rw [if_neg (by omega),if_neg h4]
    cases hp:zQ pt with
    | none=>simp
    | some a=>
     have hnext:zD0 j n (l++[a]) (W64 (at_+W64 ((pt.length:Int)+1))) rst mr=some (pgo name (l++[a]) (at_+pt.length+1) (zOu mr rst)):=by
      rw [zAr (z:=(pt.length:Int)+1) (by omega) (by omega),zAr (by omega) (by omega),← Int.add_assoc]
      cases mr with
      | false=>
       obtain ⟨m,rfl⟩:∃ m,n=m+1:=⟨n-1,by omega⟩;rw [zD0,if_neg (by simp),hj];rfl
      | true=>exact ih _ _ _ _ hmore.1 (by simp;omega) (by omega) (by have:=hmore.2 rfl;omega)
     have hap:zLr l [(⟨a.Key,a.Val⟩:Pr)]=some (l++[a]):=zDg (by simp;omega);dsimp only
     by_cases hl0:l=[]
     ·subst hl0
      rw [if_neg (by simp),if_neg (by simp),hap,zAn,hnext,if_pos (show zZg [] a.Key=0 from rfl)]
     ·have:=List.length_pos_iff.2 hl0
      rw [if_pos ⟨rfl,by omega⟩,zU7 l a.Key hl0 (by omega),zAn]
      by_cases hf:zZg l a.Key=0
      ·rw [if_neg (by omega),hap,zAn,hnext,if_pos hf]
      ·rw [if_pos hf,if_neg hf]
theorem zZz (s:Txt):(spl s).1.length≤s.length:=by have:=congrArg List.length (zQb s);simp at this;omega
theorem zXp (s:Txt) (h:s.length≤100000):zIq s=some (zPk s):=by
 unfold zIq zPk;obtain ⟨e1,e2⟩:=zS2 s;have hcl:=zOh (c:=59) (s:=s);rw [zMg s _ (by omega),zAn,zMt,zAn,e1];have hsl:=zZz s
 by_cases hn:zHn (spl s).1=true
 ·rw [hn,if_neg (by simp),if_pos rfl,zBm,← e2]
  rw [zAr (by omega) (by omega)];exact zcb _ _ (fun l=>rfl) _ _ _ _ _ (by unfold fuel;split<;>omega) (by simp) (by omega) (by rw [← e1];omega)
 ·simp at hn
  rw [hn];rfl
end Go.Proofs.YthjhejgjcdajdaaGreatDoor
set_option linter.unusedVariables false
set_option linter.unusedSimpArgs false
namespace Go.Proofs.YthjhejgjcdajdaaGreatDoor
open Go Go.RowKit Go.Wk
end Go.Proofs.YthjhejgjcdajdaaGreatDoor
set_option linter.unusedVariables false
set_option linter.unusedSimpArgs false
namespace Go.Proofs.YthjhejgjcdajdaaGreatDoor
open Go Go.RowKit Go.Wk
def zcu:List Pr→Prop
 | []=>True
 | [_]=>True
 | a::b::l=>Op.bytesLess a.Key b.Key=false∧zcu (b::l)
theorem zSw:∀ (q p:List Pr),zcu (q.reverse++p)→q.foldl (fun acc a=>zMu a acc) p=q.reverse++p
 | [],p,_=>rfl
 | x::q,p,h=>by
  rw [List.foldl_cons]
  have hx:zMu x p=x::p:=by
   cases p with
   | nil=>rfl
   | cons b p=>
    have:∀ u:List Pr,zcu (u++(x::b::p))→Op.bytesLess x.Key b.Key=false:=by
     intro u
     induction u with
     | nil=>exact fun h=>h.1
     | cons y u ih=>
      intro h
      cases u with
      | nil=>exact h.2.1
      | cons z u=>exact ih h.2
    rw [zMu,if_neg (by rw [this q.reverse (by simpa using h)];simp)]
  rw [hx,zSw q (x::p) (by simpa using h)];simp
theorem zc0 {l:List Pr} (h:zcu l.reverse):srt l=l:=by unfold srt;rw [zSw l [] (by simpa using h)];simp
end Go.Proofs.YthjhejgjcdajdaaGreatDoor
set_option linter.unusedVariables false
set_option linter.unusedSimpArgs false
namespace Go.Proofs.YthjhejgjcdajdaaGreatDoor
open Go Go.RowKit Go.Wk
theorem zXy {x y:Txt} (h:Op.bytesLess x y=true):Op.bytesLess y x=false:=by
 rw [bytesLess_eq] at h ⊢;simp at h ⊢;exact List.le_of_lt h
theorem le_trans {x y z:Txt} (h:Op.bytesLess y x=false) (h':Op.bytesLess z y=false):Op.bytesLess z x=false:=by
 rw [bytesLess_eq] at h h' ⊢;simp at h h' ⊢;exact List.le_trans h h'
def ge (a b:Pr):Prop:=Op.bytesLess a.Key b.Key=false
theorem zRm (x:Pr):∀ p:List Pr,(zMu x p).Perm (x::p)
 | []=>.refl _
 | b::p=>by
  unfold zMu;split
  ·exact ((zRm x p).cons b).trans (.swap x b p)
  ·exact .refl _
theorem zVv (x:Pr):∀ p:List Pr,p.Pairwise ge→(zMu x p).Pairwise ge
 | [],_=>by simp [zMu]
 | b::p,h=>by
  obtain ⟨h1,h2⟩:=List.pairwise_cons.1 h;unfold zMu;split
  ·rename_i hx
   refine List.pairwise_cons.2 ⟨fun a ha=>?_,zVv x p h2⟩
   rcases (zQi x a p).1 ha with rfl|ha
   ·exact zXy hx
   ·exact h1 a ha
  ·rename_i hx
   simp only [Bool.not_eq_true] at hx;refine List.pairwise_cons.2 ⟨fun a ha=>?_,h⟩
   rcases List.mem_cons.1 ha with rfl|ha
   ·exact hx
   ·exact le_trans (h1 a ha) hx
theorem zSc:∀ (l p:List Pr),p.Pairwise ge→(l.foldl (fun acc a=>zMu a acc) p).Pairwise ge∧(l.foldl (fun acc a=>zMu a acc) p).Perm (l.reverse++p)
 | [],p,h=>⟨h,.refl _⟩
 | x::l,p,h=>by
  obtain ⟨h1,h2⟩:=zSc l (zMu x p) (zVv x p h);refine ⟨h1,h2.trans ?_⟩;rw [List.reverse_cons,List.append_assoc];exact (zRm x p).append_left _
theorem zX5 (l:List Pr):(srt l).Perm l:=by
 have:=(zSc l [] .nil).2;rw [List.append_nil] at this;exact (List.reverse_perm _).trans (this.trans (List.reverse_perm l))
def le (a b:Pr):Prop:=Op.bytesLess b.Key a.Key=false
theorem zYx (l:List Pr):(srt l).Pairwise le:=by
 have:=(zSc l [] .nil).1;unfold srt;rw [List.pairwise_reverse];exact this
theorem zPb:∀ (l p:List Pr),chk p l=0↔(∀ a∈l,zHn a.Key=true∧zPi a.Val=true)∧(∀ a∈l,∀ b∈p,b.Key≠a.Key)∧l.Pairwise (fun a b=>a.Key≠b.Key)
 | [],p=>by simp [chk]
 | x::l,p=>by
  rw [chk]
  by_cases hx:(zHn x.Key&&zPi x.Val)=true
  ·rw [if_pos hx]
   by_cases hp:p.any (fun b=>decide (b.Key=x.Key))=true
   ·rw [if_pos hp]
    simp at hp;obtain ⟨b,hb,hk⟩:=hp
    constructor
    ·intro h;cases h
    ·intro h;exact absurd hk (h.2.1 x (by simp) b hb)
   ·rw [if_neg hp,zPb l (p++[x])]
    simp at hx hp ⊢
    grind
  ·rw [if_neg hx]
   simp at hx ⊢
   grind
theorem zSi {l:List Pr} (h:chk [] l=0):chk [] (srt l)=0:=by
 rw [zPb] at h ⊢;refine ⟨fun a ha=>h.1 a ((zUs a l).1 ha),fun _ _ _ hb=>(by cases hb),?_⟩;exact ((zX5 l).pairwise_iff (fun {x y} h=>h.symm)).2 h.2.2
theorem zQc:∀ (p:Txt) (ps:List Txt),(∀ x∈p,x≠59)→(∀ p∈ps,∀ x∈p,x≠59)→spl (p++ps.flatMap (fun p=>59::p))=(p,ps)
 | x::p,ps,h,hs=>by
  rw [List.cons_append,spl,if_neg (h x (by simp)),zQc p ps (fun y hy=>h y (by simp [hy])) hs]
 | [],[],_,_=>rfl
 | [],q::ps,_,hs=>by
  rw [List.nil_append,List.flatMap_cons,List.cons_append,spl,if_pos rfl,zQc q ps (hs q (by simp)) (fun p hp=>hs p (by simp [hp]))]
termination_by p ps=>(ps.length,p.length)
def body (a:Pr):Txt:=a.Key++61::a.Val
theorem zTw (l:List Pr):zJu l=(l.map body).flatMap (fun p=>59::p):=by
 unfold zJu
 induction l with
 | nil=>rfl
 | cons a l ih=>rw [List.flatMap_cons,ih,List.map_cons,List.flatMap_cons];simp [at1,body]
theorem zTc {c:UInt8} (h:nmC c=true):c≠59∧c≠61:=by
 constructor
 ·intro e;subst e;revert h;decide
 ·intro e;subst e;revert h;decide
theorem zN8 {s:Txt} (h:zHn s=true):∀ x∈s,x≠59∧x≠61:=by
 intro x hx;unfold zHn at h
 match s,h,hx with
 | c::t,h,hx=>
  simp at h
  rcases List.mem_cons.1 hx with rfl|hx
  ·exact zTc (by simp [nmC,h.2.1])
  ·exact zTc (h.2.2 x hx)
theorem zUk {s:Txt} (h:zPi s=true):∀ x∈s,x≠59:=by
 intro x hx e;subst e;unfold zPi at h;simp at h;have:=h.2 _ hx
 revert this;decide
theorem zRs:∀ (k v:Txt),(∀ x∈k,x≠61)→zFs 61 (k++61::v)=(k,v,true)
 | [],v,_=>rfl
 | x::k,v,h=>by rw [List.cons_append,zFs,if_neg (h x (by simp)),zRs k v fun y hy=>h y (by simp [hy])]
theorem zS7 {a:Pr} (hn:zHn a.Key=true) (hv:zPi a.Val=true):zQ (body a)=some a:=by
 unfold zQ body;rw [zRs _ _ fun x hx=>(zN8 hn x hx).2];simp [hn,hv]
theorem zT8 (name:Txt):∀ (q p:List Pr) (at_:Int),(p++q).length≤4→chk [] (p++q)=0→(p++q).Pairwise le→pgo name p at_ (q.map body)=(name,p++q,0,0)
 | [],p,at_,_,_,_=>by simp [pgo]
 | a::q,p,at_,h4,hc,hl=>by
  have hc':=(zPb _ _).1 hc;obtain ⟨hn,hv⟩:=hc'.1 a (by simp);have ih:=zT8 name q (p++[a]) (at_+(body a).length+1) (by simpa using h4) (by simpa using hc) (by simpa using hl)
  have hfo:zZg p a.Key=0:=by
   unfold zZg;rw [if_neg]
   ·cases hb:p.getLast? with
    | none=>rfl
    | some b=>
     have:le b a:=(List.pairwise_append.1 hl).2.2 b (List.mem_of_getLast? hb) a (by simp);dsimp only;rw [if_neg (by rw [this];simp)]
   ·simp
    intro b hb;exact (List.pairwise_append.1 hc'.2.2).2.2 b hb a (by simp)
  rw [List.map_cons,pgo,if_neg (by simp at h4;omega),zS7 hn hv];dsimp only;rw [if_pos hfo,ih];simp
theorem zN6 {name:Txt} {l:List Pr} (h:zIt name l=0):zPk (name++zJu (srt l))=(name,srt l,0,0):=by
 obtain ⟨h1,h2,h3⟩:=zN h;have hcs:=zSi h3;have hc:=(zPb _ _).1 hcs
 have hsp:spl (name++zJu (srt l))=(name,(srt l).map body):=by
  rw [zTw]
  refine zQc _ _ (fun x hx=>(zN8 h1 x hx).1) fun p hp x hx=>?_
  obtain ⟨a,ha,rfl⟩:=List.mem_map.1 hp;unfold body at hx
  rcases List.mem_append.1 hx with hx|hx
  ·exact (zN8 (hc.1 a ha).1 x hx).1
  ·rcases List.mem_cons.1 hx with rfl | hx
   ·decide
   ·exact zUk (hc.1 a ha).2 x hx
 unfold zPk;rw [hsp];dsimp only;rw [if_pos h1];have:=zT8 name (srt l) [] (name.length+1) (by rw [List.nil_append,zM3];exact h2) (by rw [List.nil_append];exact hcs) (by rw [List.nil_append];exact zYx l);rw [this];simp
theorem zX0 {n1 n2:Txt} {l1 l2:List Pr} (h1:zIt n1 l1=0) (h2:zIt n2 l2=0):n1++zJu (srt l1)=n2++zJu (srt l2)↔n1=n2∧srt l1=srt l2:=by
 constructor
 ·intro h
  have e1:=zN6 h1;have e2:=zN6 h2;rw [h,e2] at e1;simp at e1;exact ⟨e1.1.symm,e1.2.symm⟩
 ·rintro ⟨rfl,h⟩;rw [h]
end Go.Proofs.YthjhejgjcdajdaaGreatDoor
set_option linter.unusedVariables false
set_option linter.unusedSimpArgs false
namespace Go.Proofs.YthjhejgjcdajdaaGreatDoor
open Go Go.RowKit Go.Wk
theorem zVq {l:List Pr} (h:zRl l=true):l.length≤20:=by unfold zRl at h;simp at h;exact h.1
theorem zQ9 {name:Txt} {l:List Pr} (h:zIt name l=0):(name++zJu (srt l)).length≤32+66*4:=by
 obtain ⟨h1,h2,h3⟩:=zN h;have:=zMp h1
 have ht:∀ m:List Pr,(∀ a∈m,a.Key.length≤32∧a.Val.length≤32)→(zJu m).length≤66*m.length:=by
  intro m
  induction m with
  | nil=>intro _;simp [zJu]
  | cons a m ih=>intro hm;have:=ih fun b hb=>hm b (by simp [hb]);have:=hm a (by simp);rw [zPx,List.length_append,zb6,List.length_cons];omega
 have hs:=(zPb _ _).1 (zSi h3)
 have:=ht (srt l) fun a ha=>⟨zMp (hs.1 a ha).1,zSr (hs.1 a ha).2⟩
 rw [zM3] at this;rw [List.length_append];omega
end Go.Proofs.YthjhejgjcdajdaaGreatDoor
set_option maxRecDepth 20000
set_option linter.unusedVariables false
set_option linter.unusedSimpArgs false
namespace Go.Proofs.YthjhejgjcdajdaaGreatDoor
open Go Go.RowKit Go.Wk
def zWo (x:UInt64):Bool:=decide (x.toNat/4503599627370496%2048≠2047)
theorem zbc (x:Nat):x&&&9218868437227405312=(x/4503599627370496%2048)*4503599627370496:=by
 have e1:x/4503599627370496%2048=(x>>>52)&&&(2^11-1):=by rw [Nat.and_two_pow_sub_one_eq_mod,Nat.shiftRight_eq_div_pow]
 have e2:((x>>>52)&&&(2^11-1))*4503599627370496=((x>>>52)&&&(2^11-1))<<<52:=by rw [Nat.shiftLeft_eq]
 rw [e1,e2]
 apply Nat.eq_of_testBit_eq
 intro i;rw [Nat.testBit_and,Nat.testBit_shiftLeft,Nat.testBit_and,Nat.testBit_shiftRight,Nat.testBit_two_pow_sub_one,show (9218868437227405312:Nat)=(2^11-1)<<<52 by decide,Nat.testBit_shiftLeft,Nat.testBit_two_pow_sub_one]
 by_cases h:i≥52
 ·rw [show 52+(i-52)=i by omega]
  simp [h]
 ·simp [h]
theorem zct (x:UInt64):zJp x=some (zWo x):=by
 unfold zJp zWo
 congr 1
 apply decide_eq_decide.2
 rw [UInt64.toNat_and,show (9218868437227405312:UInt64).toNat=9218868437227405312 by rfl,zbc]
 omega
theorem zc8 (x:UInt64) (k:UInt64) (hk:k≠0):quo64 x k=some (UInt64.ofNat (x.toNat/k.toNat)):=by
 unfold quo64;rw [if_neg hk]
 congr 1
 apply UInt64.toNat_inj.1
 have:=x.toNat_lt;rw [UInt64.toNat_div,zBs (Nat.lt_of_le_of_lt (Nat.div_le_self _ _) (by omega))]
theorem zVa (x:UInt64) (k:UInt64) (hk:k≠0):rem64 x k=some (UInt64.ofNat (x.toNat%k.toNat)):=by
 unfold rem64;rw [if_neg hk]
 congr 1
 apply UInt64.toNat_inj.1
 have:=x.toNat_lt;rw [UInt64.toNat_mod,zBs (Nat.lt_of_le_of_lt (Nat.mod_le _ _) (by omega))]
theorem za6 (x:UInt64):zE0 x=some (zWo x):=by
 have hx:=x.toNat_lt;unfold zE0 zWo;rw [zc8 _ _ (by decide),zAn,zVa _ _ (by decide),zAn,show (4503599627370496:UInt64).toNat=4503599627370496 by rfl,show (2048:UInt64).toNat=2048 by rfl,zBs (n:=x.toNat/4503599627370496) (by omega),zBs (n:=x.toNat/4503599627370496%2048) (by omega)]
 congr 1
 apply decide_eq_decide.2
 omega
def ltZ (x:UInt64):Bool:=decide (9223372036854775808≤x.toNat∧x.toNat%9223372036854775808≠0∧x.toNat%9223372036854775808≤9218868437227405312)
theorem zXh (x:UInt64):zEr x 0=some (ltZ x):=by
 have hx:=x.toNat_lt
 have o0:zD4 0=some false:=by decide
 have ox:zD4 x=some (decide (x.toNat%9223372036854775808>9218868437227405312)):=by
  unfold zD4;simp only [zBm];rw [zc8 _ _ (by decide),zAn,zVa _ _ (by decide),zAn,zVa _ _ (by decide),zAn,show (4503599627370496:UInt64).toNat=4503599627370496 by rfl,show (2048:UInt64).toNat=2048 by rfl,zBs (n:=x.toNat/4503599627370496) (by omega),zBs (n:=x.toNat/4503599627370496%2048) (by omega),zBs (n:=x.toNat%4503599627370496) (by omega)]
  by_cases h:x.toNat/4503599627370496%2048=2047
  ·rw [if_pos (by omega)];congr 1;apply decide_eq_decide.2;omega
  ·rw [if_neg (by omega)];congr 1;symm;rw [decide_eq_false_iff_not];omega
 unfold zEr ltZ;simp only [zBm];rw [ox,zAn,o0,zAn,zVa _ _ (by decide),zAn,zVa _ _ (by decide),zAn,show (9223372036854775808:UInt64).toNat=9223372036854775808 by rfl,zBs (by omega),show (0:UInt64).toNat=0 by rfl]
 by_cases h1:x.toNat%9223372036854775808>9218868437227405312
 ·rw [if_pos (decide_eq_true h1),if_pos (by first | trivial | rfl)];congr 1;symm;rw [decide_eq_false_iff_not];omega
 ·rw [if_neg (by rw [decide_eq_false h1];decide),if_neg (by decide)]
  by_cases h2:x.toNat%9223372036854775808=0
  ·rw [if_pos ⟨by omega,by rfl⟩];congr 1;symm;rw [decide_eq_false_iff_not];omega
  ·rw [if_neg (fun k=>h2 (by have:=k.1;omega)),if_neg (by omega)]
   by_cases h3:x.toNat<9223372036854775808
   ·rw [if_pos ⟨by omega,by decide⟩];congr 1;apply decide_eq_decide.2
    rw [show (UInt64.ofNat (0%9223372036854775808)).toNat=0 by rfl];omega
   ·rw [if_neg (fun k=>h3 (by have:=k.1;omega))];congr 1;apply decide_eq_decide.2;omega
theorem zai (x:UInt64):zLp x 0=some (ltZ x):=by
 have hx:=x.toNat_lt;unfold zLp zOe zY5 ltZ;rw [zAn,zAn]
 congr 1
 have r0:Ieee.Format.read Ieee.double (0:UInt64).toNat=.number false 0 (-1074):=by decide
 show (Ieee.Datum.order (Ieee.Format.read Ieee.double x.toNat) (Ieee.Format.read Ieee.double (0:UInt64).toNat)==some .lt)=_;rw [r0];generalize x.toNat=v at *;unfold Ieee.Format.read
 have sw:Ieee.double.signWeight=9223372036854775808:=by decide
 have bn:Ieee.double.binade=4503599627370496:=by decide
 have ir:Ieee.double.infRung=9218868437227405312:=by decide
 have lp:Ieee.double.leastPlace=-1074:=by decide
 dsimp only;rw [sw,bn,ir,lp]
 have hs:(v/9223372036854775808%2==1)=decide (9223372036854775808≤v):=by
  by_cases h:9223372036854775808≤v
  ·rw [decide_eq_true h];have:v/9223372036854775808%2=1:=by omega
   rw [this];rfl
  ·rw [decide_eq_false h];have:v/9223372036854775808%2=0:=by omega
   rw [this];rfl
 rw [hs];generalize hb:decide (9223372036854775808≤v)=s
 have hb':s=true↔9223372036854775808≤v:=by rw [← hb];exact decide_eq_true_iff
 have cmp:∀ (m k:Nat),(Ieee.Datum.order (.number s m (-1074+(k:Int))) (.number false 0 (-1074))==some .lt)=decide (s=true∧m≠0):=by
  intro m k
  have e1:min (-1074+(k:Int)) (-1074)=-1074:=by omega
  show (some (compare (Ieee.signed s m ((-1074+(k:Int))-min (-1074+(k:Int)) (-1074)).toNat) (Ieee.signed false 0 ((-1074:Int)-min (-1074+(k:Int)) (-1074)).toNat))==some .lt)=_;rw [e1,show ((-1074+(k:Int))-(-1074)).toNat=k by omega,show ((-1074:Int)-(-1074)).toNat=0 by rfl];unfold Ieee.signed;rw [if_neg (show ¬(false=true) by decide),show ((0<<<0:Nat):Int)=0 by rfl,Nat.shiftLeft_eq];have hp:=Nat.two_pow_pos k
  cases s with
  | false=>
   have:¬(((m*2^k:Nat):Int)<0):=by omega
   simp only [compare,compareOfLessAndEq];rw [if_neg (show ¬(if false=true then -((m*2^k:Nat):Int) else ((m*2^k:Nat):Int))<0 from this)]
   (repeat' split)<;>first | rfl | (exfalso;simp_all) | simp
  | true=>
   by_cases hm:m=0
   ·subst hm;simp [compare,compareOfLessAndEq]
   ·have h0:0<m*2^k:=Nat.mul_pos (by omega) hp
    have:(-((m*2^k:Nat):Int)<0):=by omega
    simp only [compare,compareOfLessAndEq];rw [if_pos (show (if True then -((m*2^k:Nat):Int) else ((m*2^k:Nat):Int))<0 by rw [if_pos trivial];exact this)];simp [hm]
 by_cases h1:v%9223372036854775808<4503599627370496
 ·rw [if_pos h1]
  refine (cmp (v%9223372036854775808) 0).trans ?_
  apply decide_eq_decide.2;rw [hb'];omega
 ·rw [if_neg h1]
  by_cases h2:v%9223372036854775808<9218868437227405312
  ·rw [if_pos h2]
   refine (cmp (4503599627370496+v%9223372036854775808%4503599627370496) _).trans ?_
   apply decide_eq_decide.2;rw [hb'];omega
  ·rw [if_neg h2]
   by_cases h3:v%9223372036854775808=9218868437227405312
   ·rw [if_pos h3]
    show (some (if s=true then Ordering.lt else .gt)==some .lt)=_
    have:decide (s=true)=decide (9223372036854775808≤v∧v%9223372036854775808≠0∧v%9223372036854775808≤9218868437227405312):=by apply decide_eq_decide.2;rw [hb'];omega
    rw [← this];cases s<;>rfl
   ·rw [if_neg h3]
    show false=_
    symm;rw [decide_eq_false_iff_not];omega
end Go.Proofs.YthjhejgjcdajdaaGreatDoor
set_option linter.unusedVariables false
set_option linter.unusedSimpArgs false
namespace Go.Proofs.YthjhejgjcdajdaaGreatDoor
open Go Go.RowKit Go.Wk
abbrev Pt:=zA6
def zKu (p:Pt):Bool:=if p.Kind=3 then decide (p.Temp=0) else decide (1≤p.Kind∧p.Kind≤5)&&decide (p.Temp=1∨p.Temp=2)
theorem zY1 (p:Pt):zIo p=some (zKu p):=by
 unfold zIo zKu;rw [zBm]
 by_cases h3:p.Kind=3
 ·rw [if_pos h3,if_pos h3]
 ·rw [if_neg h3,if_neg h3]
  by_cases h1:p.Kind=1
  ·simp [h1]
  ·by_cases h2:p.Kind=2
   ·simp [h2]
   ·by_cases h4:p.Kind=4
    ·simp [h4]
    ·by_cases h5:p.Kind=5
     ·simp [h5]
     ·have:¬(1≤p.Kind∧p.Kind≤5):=by omega
      simp [h1,h2,h4,h5,this]
def zJn (p:Pt):Bool:=decide (0≤p.Start∧p.Time≤4503599627370496∧(if p.Kind=3 then p.Start=p.Time else p.Start<p.Time))
theorem zX (p:Pt):zIn p=some (zJn p):=by
 unfold zIn zJn
 by_cases h:p.Start<0∨p.Time>4503599627370496
 ·rw [if_pos h];congr 1;symm;rw [decide_eq_false_iff_not];omega
 ·rw [if_neg h]
  split<;>(congr 1;apply decide_eq_decide.2;omega)
def zL (h:zA3):Bool:=decide (h.Scale=0∧h.Zero=0∧h.Pos.Offset=0∧h.Neg.Offset=0∧h.Pos.Counts=[]∧h.Neg.Counts=[])
theorem zbr (x:UInt64):((x.toNat:Nat):Int)=0↔x=0:=by
 constructor
 ·intro h;apply UInt64.toNat_inj.1;simp;omega
 ·rintro rfl;rfl
theorem zb4 (h:zA3) (h1:h.Pos.Counts.length≤1000000) (h2:h.Neg.Counts.length≤1000000):zJo h=some (zL h):=by
 unfold zJo zL;rw [zBm,zAr (by omega) (by omega)];simp only [zbr]
 have e:((h.Pos.Counts.length:Int)+(h.Neg.Counts.length:Int)=0)↔h.Pos.Counts=[]∧h.Neg.Counts=[]:=by
  rw [← List.length_eq_zero_iff,← List.length_eq_zero_iff];omega
 simp only [e]
 split
 ·rename_i hh;congr 1;apply decide_eq_decide.2;simp [hh]
 ·rename_i hh;congr 1;symm;rw [decide_eq_false_iff_not];intro hc;exact hh ⟨⟨⟨hc.1,hc.2.1⟩,hc.2.2.1⟩,hc.2.2.2.1⟩
def zS9 (p:Pt):Bool:=decide ((p.Kind≠1→p.Int_=0)∧(¬(p.Kind=2∨p.Kind=3∨p.Kind=5)→p.Re=0)∧(p.Kind≠5→p.Im=0)∧(p.Kind≠4→zL p.Hist=true)∧0≤p.Flags∧p.Flags≤31)
theorem zcd (p:Pt) (h1:p.Hist.Pos.Counts.length≤1000000) (h2:p.Hist.Neg.Counts.length≤1000000):zKg p=some (zS9 p):=by
 unfold zKg zS9;rw [zBm,zb4 _ h1 h2,zBm];simp only [zbr,ne_eq]
 by_cases a1:¬p.Kind=1∧¬p.Int_=0
 ·rw [if_pos a1,decide_eq_true a1,if_pos rfl];congr 1;symm;rw [decide_eq_false_iff_not];intro hc;exact a1.2 (hc.1 a1.1)
 ·rw [if_neg a1]
  by_cases a2:(¬((p.Kind=2∨p.Kind=3)∨p.Kind=5))∧¬p.Re=0
  ·rw [if_pos a2,decide_eq_true a2,if_pos rfl];congr 1;symm;rw [decide_eq_false_iff_not];intro hc;exact a2.2 (hc.2.1 (by intro h;exact a2.1 (by omega)))
  ·rw [if_neg a2]
   by_cases a3:¬p.Kind=5∧¬p.Im=0
   ·rw [if_pos a3,decide_eq_true a3,if_pos rfl];congr 1;symm;rw [decide_eq_false_iff_not];intro hc;exact a3.2 (hc.2.2.1 a3.1)
   ·rw [if_neg a3]
    have b1:¬p.Kind=1→p.Int_=0:=fun h=>Classical.byContradiction fun h'=>a1 ⟨h,h'⟩
    have b2:¬(p.Kind=2∨p.Kind=3∨p.Kind=5)→p.Re=0:=fun h=>Classical.byContradiction fun h'=>a2 ⟨by omega,h'⟩
    have b3:¬p.Kind=5→p.Im=0:=fun h=>Classical.byContradiction fun h'=>a3 ⟨h,h'⟩
    by_cases a4:p.Kind=4
    ·rw [if_neg (by simpa using a4)]
     simp only [Bool.false_eq_true,if_false]
     by_cases a5:p.Flags<0∨p.Flags>31
     ·rw [decide_eq_true a5,if_pos rfl];congr 1;symm;rw [decide_eq_false_iff_not];omega
     ·rw [decide_eq_false a5];simp only [Bool.false_eq_true,if_false];congr 1;symm;rw [decide_eq_true_iff];exact ⟨b1,b2,b3,fun h=>(h a4).elim,by omega,by omega⟩
    ·rw [if_pos a4,zAn]
     cases hb:zL p.Hist with
     | false=>simp only [Bool.not_false,if_true];congr 1;symm;rw [decide_eq_false_iff_not];intro hc;have:=hc.2.2.2.1 a4;cases this
     | true=>
      simp only [Bool.not_true,Bool.false_eq_true,if_false]
      by_cases a5:p.Flags<0∨p.Flags>31
      ·rw [decide_eq_true a5,if_pos rfl];congr 1;symm;rw [decide_eq_false_iff_not];omega
      ·rw [decide_eq_false a5];simp only [Bool.false_eq_true,if_false];congr 1;symm;rw [decide_eq_true_iff];exact ⟨b1,b2,b3,fun _=>by first | rfl | trivial,by omega,by omega⟩
end Go.Proofs.YthjhejgjcdajdaaGreatDoor
set_option maxRecDepth 20000
set_option linter.unusedVariables false
set_option linter.unusedSimpArgs false
namespace Go.Proofs.YthjhejgjcdajdaaGreatDoor
open Go Go.RowKit Go.Wk
def pcE (p:Pt):Int:=
 if zIt p.Name p.Attrs≠0 then zIt p.Name p.Attrs
 else if zKu p=false then 14
 else if p.Mono=true∧p.Kind≠1∧p.Kind≠2 then 1
 else if zJn p=false then 1
 else if zS9 p=false then 3
 else if (p.Mono=true∧p.Kind=2)∧zWo p.Re=false then 11
 else if p.Mono=true∧(p.Int_<0∨ltZ p.Re=true) then 1
 else if p.Kind=4 then hcE p.Hist else 0
theorem zN1 (p:Pt) (h1:p.Hist.Pos.Counts.length≤1000000) (h2:p.Hist.Neg.Counts.length≤1000000):zDr p=some (pcE p):=by
 unfold zDr pcE zM5;rw [zTr,zAn]
 by_cases c:zIt p.Name p.Attrs≠0
 ·rw [if_pos c,if_pos c]
 rw [if_neg c,if_neg c,zY1,zAn]
 cases hk:zKu p with
 | false=>rw [if_pos (by rfl),if_pos rfl]
 | true=>
  rw [if_neg (by decide),if_neg (show ¬(true=false) by decide)];simp only [zBm,zAn,zX,zcd p h1 h2,zct,zai,zJe p.Hist h1 h2]
  have e1:(p.Mono=true∧p.Kind≠1∧p.Kind≠2)↔(if p.Mono=true then (!decide ((p.Kind=1)∨(p.Kind=2))) else false)=true:=by
   cases p.Mono<;>simp
  cases hm:p.Mono with
  | false=>
   simp only [Bool.false_eq_true,if_false,false_and]
   cases zJn p<;>simp
   cases zS9 p<;>simp
   split<;>rfl
  | true=>
   simp only [if_true,true_and]
   by_cases hs:p.Kind=1∨p.Kind=2
   ·rw [decide_eq_true hs]
    simp only [Bool.not_true,Bool.false_eq_true,if_false];rw [if_neg (show ¬(p.Kind≠1∧p.Kind≠2) by omega)]
    cases zJn p<;>simp
    cases zS9 p<;>simp
    have h4:¬p.Kind=4:=by omega
    by_cases h2:p.Kind=2
    ·simp only [h2,if_true,true_and]
     cases zWo p.Re<;>simp
     by_cases hi:p.Int_<0
     ·simp [hi]
     ·simp [hi];split<;>rfl
    ·simp only [h2,if_false,false_and]
     by_cases hi:p.Int_<0
     ·simp [hi]
     ·simp [hi,h4];split<;>rfl
   ·rw [decide_eq_false hs,if_pos (show p.Kind≠1∧p.Kind≠2 by omega)]
    simp
end Go.Proofs.YthjhejgjcdajdaaGreatDoor
set_option linter.unusedVariables false
set_option linter.unusedSimpArgs false
namespace Go.Proofs.YthjhejgjcdajdaaGreatDoor
open Go Go.RowKit Go.Wk
theorem u64ne (x y:UInt64):(((x.toNat:Nat):Int)≠((y.toNat:Nat):Int))↔x≠y:=by
 constructor
 ·rintro h rfl;exact h rfl
 ·intro h hh;exact h (UInt64.toNat_inj.1 (by omega))
theorem zbs (x y:UInt64):(((x.toNat:Nat):Int)=((y.toNat:Nat):Int))↔x=y:=by
 constructor
 ·intro hh;exact UInt64.toNat_inj.1 (by omega)
 ·rintro rfl;rfl
theorem zV {α:Type} [DecidableEq α] (a b:List α) (hl:a.length=b.length) (B:Nat→α→Unit→(Unit→Option Bool)→Option Bool) (J:Unit→Option Bool) (hJ:J ()=some true)
 (hB:∀ i x k,B i x () k=(idx b (i:Int)).bind fun y=>if x≠y then some false else k ()):zF2 a () B J=some (decide (a=b)):=by
 rw [zJy (fun p q _=>some (decide (q=b.drop p.length))) ?_ ?_]
 ·simp
 ·intro s;rw [hJ];simp [hl]
 ·intro p x q _ k hp hk
  rw [hB,hk]
  have:p.length<b.length:=by rw [← hl,← hp];simp
  rw [zH2 this,zAn,List.drop_eq_getElem_cons this,List.length_append,List.length_singleton]
  by_cases hx:x=b[p.length]
  ·rw [if_neg (fun h=>h hx)];congr 1;apply decide_eq_decide.2;rw [List.cons.injEq];exact ⟨fun h=>⟨hx,h⟩,fun h=>h.2⟩
  ·rw [if_pos hx,decide_eq_false];rw [List.cons.injEq];exact fun h=>hx h.1
theorem zOa (a b:zA9):a=b↔a.Offset=b.Offset∧a.Counts=b.Counts:=by cases a;cases b;simp
theorem zT5 (a b:zA9) (h:a.Counts.length≤1000000):zCv a b=some (decide (a=b)):=by
 unfold zCv
 by_cases hc:a.Offset≠b.Offset∨(a.Counts.length:Int)≠(b.Counts.length:Int)
 ·rw [if_pos hc];congr 1;symm;rw [decide_eq_false_iff_not,zOa];rintro ⟨h1,h2⟩;rw [h1,h2] at hc;simp at hc
 ·rw [if_neg hc,zBm,zH3 _ _ _ (by omega)]
  have:=zV a.Counts b.Counts (by omega) (fun ii xx ss kk=>(some xx).bind fun z21=>(idx b.Counts (ii:Int)).bind fun z24=>if ((z21).toNat:Int)≠((z24).toNat:Int) then (some false) else (kk ())) (fun _=>some true) rfl fun i x k=>by rw [zAn];simp only [u64ne]
  refine this.trans ?_
  congr 1;apply decide_eq_decide.2;rw [zOa];constructor
  ·intro h;exact ⟨by omega,h⟩
  ·exact fun h=>h.2
theorem zOg (a b:zA3):a=b↔(a.Scale=b.Scale∧a.Zero=b.Zero)∧a.Pos=b.Pos∧a.Neg=b.Neg:=by cases a;cases b;simp [and_assoc]
theorem zT6 (a b:zA3) (h1:a.Pos.Counts.length≤1000000) (h2:a.Neg.Counts.length≤1000000):zDi a b=some (decide (a=b)):=by
 unfold zDi;rw [zT5 _ _ h1,zT5 _ _ h2];simp only [zbs,zAn,zBm]
 by_cases hc:a.Scale=b.Scale∧a.Zero=b.Zero
 ·rw [if_pos hc]
  by_cases hp:a.Pos=b.Pos
  ·rw [decide_eq_true hp,if_pos rfl];congr 1;apply decide_eq_decide.2;rw [zOg];simp [hc,hp]
  ·rw [decide_eq_false hp];simp only [Bool.false_eq_true,if_false];congr 1;symm;rw [decide_eq_false_iff_not,zOg];exact fun h=>hp h.2.1
 ·rw [if_neg hc];simp only [Bool.false_eq_true,if_false];congr 1;symm;rw [decide_eq_false_iff_not,zOg];exact fun h=>hc h.1
def zXa (a b:Pt):Prop:=a.Name=b.Name∧srt a.Attrs=srt b.Attrs∧a.Hist=b.Hist∧a.Kind=b.Kind∧a.Temp=b.Temp∧a.Mono=b.Mono∧a.Start=b.Start∧a.Time=b.Time∧a.Int_=b.Int_∧a.Re=b.Re∧a.Im=b.Im∧a.Flags=b.Flags
instance (a b:Pt):Decidable (zXa a b):=by unfold zXa;infer_instance
structure Few (x:Pt):Prop where
 a:x.Attrs.length≤20
 p:x.Hist.Pos.Counts.length≤1000000
 n:x.Hist.Neg.Counts.length≤1000000
theorem zXj {a b:Pt} (ha:Few a) (hb:Few b):zEp a b=some (decide (zXa a b)):=by
 unfold zEp
 have e:∀ l:List Pr,l.length≤20→(srt l).length<4611686018427387904:=fun l hl=>by rw [zM3];omega
 have ea:=ha.a;have eb:=hb.a;rw [zBm,zNn _ (by omega),zNn _ (by omega),zAn,zAn,za1 _ _ (e _ ha.a),zAn,zT6 _ _ ha.p ha.n];simp only [zAn,zBm,zbs]
 by_cases h1:a.Name=b.Name
 ·rw [if_neg (fun h=>h h1)]
  by_cases h2:srt a.Attrs=srt b.Attrs
  ·rw [decide_eq_true h2]
   simp only [Bool.not_true,Bool.false_eq_true,if_false]
   by_cases h3:(((a.Kind≠b.Kind∨a.Temp≠b.Temp)∨a.Mono≠b.Mono)∨a.Start≠b.Start)∨a.Time≠b.Time
   ·rw [if_pos h3];congr 1;symm;rw [decide_eq_false_iff_not];rintro ⟨_,_,_,q1,q2,q3,q4,q5,_⟩;rcases h3 with (((h | h) | h) | h) | h
    ·exact h q1
    ·exact h q2
    ·exact h q3
    ·exact h q4
    ·exact h q5
   ·rw [if_neg h3]
    simp only [not_or,ne_eq,Decidable.not_not] at h3;obtain ⟨⟨⟨⟨q1,q2⟩,q3⟩,q4⟩,q5⟩:=h3
    by_cases h4:((a.Int_=b.Int_∧a.Re=b.Re)∧a.Im=b.Im)∧a.Flags=b.Flags
    ·rw [if_pos h4]
     obtain ⟨⟨⟨r1,r2⟩,r3⟩,r4⟩:=h4
     congr 1;apply decide_eq_decide.2;simp [zXa,h1,h2,q1,q2,q3,q4,q5,r1,r2,r3,r4]
    ·rw [if_neg h4];congr 1;symm;rw [decide_eq_false_iff_not];rintro ⟨_,_,_,_,_,_,_,_,r1,r2,r3,r4⟩;exact h4 ⟨⟨⟨r1,r2⟩,r3⟩,r4⟩
  ·rw [decide_eq_false h2];simp only [Bool.not_false,if_true];congr 1;symm;rw [decide_eq_false_iff_not];exact fun h=>h2 h.2.1
 ·rw [if_pos h1,if_pos trivial];congr 1;symm;rw [decide_eq_false_iff_not];exact fun h=>h1 h.1
end Go.Proofs.YthjhejgjcdajdaaGreatDoor
set_option maxRecDepth 20000
set_option linter.unusedVariables false
set_option linter.unusedSimpArgs false
namespace Go.Proofs.YthjhejgjcdajdaaGreatDoor
open Go Go.RowKit Go.Wk
theorem zae (h:zA3) (h1:h.Pos.Counts.length≤1000000) (h2:h.Neg.Counts.length≤1000000):zEo h=some (zL h):=by
 unfold zEo zL;rw [zT6 _ _ h1 h2,zAn]
 congr 1
 apply decide_eq_decide.2
 rw [zOg,zOa,zOa]
 constructor
 ·rintro ⟨⟨a,b⟩,⟨c,d⟩,e,f⟩;exact ⟨a,b,c,e,d,f⟩
 ·rintro ⟨a,b,c,e,d,f⟩;exact ⟨⟨a,b⟩,⟨c,d⟩,e,f⟩
theorem zWi (p:Pt) (h1:p.Hist.Pos.Counts.length≤1000000) (h2:p.Hist.Neg.Counts.length≤1000000):zE7 p=some (pcE p):=by
 unfold zE7 pcE;rw [zS4,zAn]
 by_cases c:zIt p.Name p.Attrs≠0
 ·rw [if_pos c,if_pos c]
 rw [if_neg c,if_neg c];simp only [zBm,zAn,zae p.Hist h1 h2,za6,zXh,zWj p.Hist h1 h2]
 cases hk:zKu p with
 | false=>
  rw [if_pos (show false=false from rfl)]
  by_cases a:p.Kind<1∨p.Kind>5
  ·rw [if_pos a]
  ·rw [if_neg a,if_pos]
   unfold zKu at hk
   by_cases h3:p.Kind=3
   ·rw [if_pos h3] at hk;exact Or.inl ⟨h3,of_decide_eq_false hk⟩
   ·rw [if_neg h3,decide_eq_true (show 1≤p.Kind∧p.Kind≤5 by omega),Bool.true_and] at hk
    have:=of_decide_eq_false hk;exact Or.inr ⟨⟨h3,fun h=>this (Or.inl h)⟩,fun h=>this (Or.inr h)⟩
 | true=>
  rw [if_neg (show ¬(true=false) by decide)]
  have k:1≤p.Kind∧p.Kind≤5∧(p.Kind=3→p.Temp=0)∧(p.Kind≠3→p.Temp=1∨p.Temp=2):=by
   unfold zKu at hk
   by_cases h3:p.Kind=3
   ·rw [if_pos h3] at hk;have:=of_decide_eq_true hk;omega
   ·rw [if_neg h3,Bool.and_eq_true] at hk
    have a:=of_decide_eq_true hk.1;have b:=of_decide_eq_true hk.2;exact ⟨a.1,a.2,fun h=>(h3 h).elim,fun _=>b⟩
  rw [if_neg (show ¬(p.Kind<1∨p.Kind>5) by omega),if_neg (show ¬((p.Kind=3∧p.Temp≠0)∨((p.Kind≠3∧p.Temp≠1)∧p.Temp≠2)) by omega)]
  by_cases hs:p.Mono=true∧p.Kind≠1∧p.Kind≠2
  ·rw [if_pos (show (p.Mono=true∧p.Kind≠1)∧p.Kind≠2 from ⟨⟨hs.1,hs.2.1⟩,hs.2.2⟩),if_pos hs]
  rw [if_neg (show ¬((p.Mono=true∧p.Kind≠1)∧p.Kind≠2) from fun h=>hs ⟨h.1.1,h.1.2,h.2⟩),if_neg hs]
  have ht:((((p.Start<0)∨(p.Time>4503599627370496))∨((p.Kind=3)∧(p.Start≠p.Time)))∨((p.Kind≠3)∧(p.Start≥p.Time)))↔zJn p=false:=by
   unfold zJn;rw [decide_eq_false_iff_not]
   by_cases h3:p.Kind=3
   ·rw [if_pos h3];omega
   ·rw [if_neg h3];omega
  by_cases t:zJn p=false
  ·rw [if_pos (ht.2 t),if_pos t]
  rw [if_neg (fun h=>t (ht.1 h)),if_neg t]
  have ho:zS9 p=false↔((((p.Kind≠1)∧(p.Int_≠0))∨((p.Kind≠5)∧(((p.Im).toNat:Int)≠0)))∨(p.Kind≠4∧zL p.Hist=false)∨(((((p.Kind=1)∨(p.Kind=4))∧(((p.Re).toNat:Int)≠0))∨(p.Flags<0))∨(p.Flags>31))):=by
   unfold zS9;rw [decide_eq_false_iff_not,ne_eq,ne_eq (((p.Im).toNat:Int)),ne_eq (((p.Re).toNat:Int)),zbr,zbr]
   have e:zL p.Hist=false↔¬zL p.Hist=true:=by cases zL p.Hist<;>simp
   rw [e]
   by_cases z1:p.Re=0<;>by_cases z2:p.Im=0<;>by_cases z3:zL p.Hist=true<;>(simp [z1,z2,z3];try omega)
  by_cases ab:((p.Kind≠1)∧(p.Int_≠0))∨((p.Kind≠5)∧(((p.Im).toNat:Int)≠0))
  ·rw [if_pos (ho.2 (Or.inl ab)),if_pos ab,if_pos (by first | trivial | rfl)]
  rw [if_neg ab]
  by_cases hb:p.Kind≠4∧zL p.Hist=false
  ·rw [if_pos (ho.2 (Or.inr (Or.inl hb))),if_pos hb.1,if_pos (by rw [hb.2];rfl)]
  have go:∀ (X:Option Int),(if p.Kind≠4 then (if (!zL p.Hist)=true then some 3 else X) else (if false=true then some 3 else X))=X:=by
   intro X
   by_cases k4:p.Kind≠4
   ·have:zL p.Hist=true:=by cases h:zL p.Hist with | true=>rfl | false=>exact (hb ⟨k4,h⟩).elim
    rw [if_pos k4,if_neg (by rw [this];decide)]
   ·rw [if_neg k4,if_neg (by decide)]
  refine (go _).trans ?_
  by_cases c3:((((p.Kind=1)∨(p.Kind=4))∧(((p.Re).toNat:Int)≠0))∨(p.Flags<0))∨(p.Flags>31)
  ·rw [if_pos (ho.2 (Or.inr (Or.inr c3))),if_pos c3]
  have oT:¬zS9 p=false:=fun h=>(ho.1 h).elim ab fun h=>h.elim hb c3
  rw [if_neg oT,if_neg c3]
  by_cases m2:p.Mono=true∧p.Kind=2
  ·rw [if_pos m2,if_pos m2]
   have i0:¬p.Int_<0:=by omega
   cases hf:zWo p.Re with
   | false=>rw [if_pos (by rfl),if_pos (show (p.Mono=true∧p.Kind=2)∧false=false from ⟨m2,rfl⟩)]
   | true=>
    rw [if_neg (by decide),if_neg (show ¬((p.Mono=true∧p.Kind=2)∧true=false) by simp)]
    cases hl:ltZ p.Re with
    | true=>rw [if_pos (Or.inl rfl),if_pos ⟨m2.1,Or.inr rfl⟩]
    | false=>rw [if_neg (show ¬(false=true∨(p.Mono=true∧p.Kind=1)∧p.Int_<0) by simp [i0]),if_neg (show ¬(p.Mono=true∧(p.Int_<0∨false=true)) by simp [i0])];split<;>rfl
  ·rw [if_neg m2,if_neg (show ¬(false=true) by decide),if_neg m2,if_neg (show ¬((p.Mono=true∧p.Kind=2)∧zWo p.Re=false) from fun h=>m2 h.1)]
   by_cases m1:p.Mono=true∧p.Kind=1
   ·have r0:p.Re=0:=by apply (zbr _).1;omega
    have l0:ltZ p.Re=false:=by rw [r0];decide
    rw [l0]
    by_cases hi:p.Int_<0
    ·rw [if_pos (Or.inr ⟨m1,hi⟩),if_pos ⟨m1.1,Or.inl hi⟩]
    ·rw [if_neg (show ¬(false=true∨(p.Mono=true∧p.Kind=1)∧p.Int_<0) by simp [hi]),if_neg (show ¬(p.Mono=true∧(p.Int_<0∨false=true)) by simp [hi])];split<;>rfl
   ·have hm:¬p.Mono=true:=by
     intro hm;exact hs ⟨hm,fun h=>m1 ⟨hm,h⟩,fun h=>m2 ⟨hm,h⟩⟩
    rw [if_neg (show ¬(false=true∨(p.Mono=true∧p.Kind=1)∧p.Int_<0) by simp [hm]),if_neg (show ¬(p.Mono=true∧(p.Int_<0∨ltZ p.Re=true)) from fun h=>hm h.1)];split<;>rfl
structure PtR (p:Pt):Prop where
 c:zIt p.Name p.Attrs=0
 k:zKu p=true
 t:zJn p=true
 o:zS9 p=true
 h:p.Kind=4→hcE p.Hist=0
theorem zL5 {p:Pt} (h:pcE p=0):PtR p:=by
 unfold pcE at h
 by_cases c:zIt p.Name p.Attrs≠0
 ·rw [if_pos c] at h;exact (c h).elim
 rw [if_neg c] at h
 by_cases k:zKu p=false
 ·rw [if_pos k] at h;exact absurd h (by decide)
 rw [if_neg k] at h
 by_cases s:p.Mono=true∧p.Kind≠1∧p.Kind≠2
 ·rw [if_pos s] at h;exact absurd h (by decide)
 rw [if_neg s] at h
 by_cases t:zJn p=false
 ·rw [if_pos t] at h;exact absurd h (by decide)
 rw [if_neg t] at h
 by_cases o:zS9 p=false
 ·rw [if_pos o] at h;exact absurd h (by decide)
 rw [if_neg o] at h
 by_cases f:(p.Mono=true∧p.Kind=2)∧zWo p.Re=false
 ·rw [if_pos f] at h;exact absurd h (by decide)
 rw [if_neg f] at h
 by_cases l:p.Mono=true∧(p.Int_<0∨ltZ p.Re=true)
 ·rw [if_pos l] at h;exact absurd h (by decide)
 rw [if_neg l] at h;refine ⟨Classical.not_not.1 c,by simpa using k,by simpa using t,by simpa using o,fun h4=>?_⟩;rw [if_pos h4] at h;exact h
end Go.Proofs.YthjhejgjcdajdaaGreatDoor
set_option maxRecDepth 20000
set_option linter.unusedVariables false
set_option linter.unusedSimpArgs false
namespace Go.Proofs.YthjhejgjcdajdaaGreatDoor
open Go Go.RowKit Go.Wk
theorem zah (p:Pt):zDb p=some (decide (p.Name.length≤100)&&zRl p.Attrs&&decide (p.Hist.Pos.Counts.length≤300∧p.Hist.Neg.Counts.length≤300)):=by
 unfold zDb zFm;rw [zBm,zXz]
 have e1:((p.Hist.Pos.Counts.length:Int)≤300)↔p.Hist.Pos.Counts.length≤300:=by omega
 have e2:((p.Hist.Neg.Counts.length:Int)≤300)↔p.Hist.Neg.Counts.length≤300:=by omega
 simp only [zBm,zAn,e1,e2]
 by_cases h1:(p.Name.length:Int)≤100
 ·rw [if_pos h1,decide_eq_true (by omega:p.Name.length≤100)]
  cases zRl p.Attrs with
  | false=>simp
  | true=>simp
 ·rw [if_neg h1,decide_eq_false (by omega:¬p.Name.length≤100)];simp
theorem zVr {p:Pt} (h:(decide (p.Name.length≤100)&&zRl p.Attrs&&decide (p.Hist.Pos.Counts.length≤300∧p.Hist.Neg.Counts.length≤300))=true):Few p∧p.Hist.Pos.Counts.length≤300∧p.Hist.Neg.Counts.length≤300:=by
 simp only [Bool.and_eq_true,decide_eq_true_iff] at h;obtain ⟨⟨_,h2⟩,h3,h4⟩:=h;exact ⟨⟨zVq h2,by omega,by omega⟩,h3,h4⟩
theorem zYb (p:Pt) (h:Few p):zH8 p=some p:=by
 have:=h.a;have:=h.p;have:=h.n;unfold zH8 zBz zD6 zCm;rw [zDg (by simp;omega),zAn,zDg (by simp;omega),zAn,zDg (by simp;omega),zAn,zAn]
 rfl
def mono (b:Bool):Nat:=if b=true then 1 else 0
theorem zOt {p:Pt} (h:PtR p):1≤p.Kind∧p.Kind≤5∧0≤p.Temp∧p.Temp≤2∧0≤p.Flags∧p.Flags≤31∧0≤p.Start∧p.Start≤p.Time∧p.Time≤4503599627370496:=by
 obtain ⟨_,hk,ht,ho,_⟩:=h;unfold zKu at hk;unfold zJn at ht;unfold zS9 at ho;rw [decide_eq_true_iff] at ht ho;obtain ⟨t1,t2,t3⟩:=ht;obtain ⟨_,_,_,_,o1,o2⟩:=ho
 by_cases h3:p.Kind=3
 ·rw [if_pos h3] at hk t3
  rw [decide_eq_true_iff] at hk
  omega
 ·rw [if_neg h3] at hk t3
  simp only [Bool.and_eq_true,decide_eq_true_iff] at hk
  omega
def zK7 (p:Pt):List UInt8:=(p.Name++zJu (srt p.Attrs))++([32]++[UInt8.ofNat (48+p.Kind.toNat),UInt8.ofNat (48+p.Temp.toNat),UInt8.ofNat (48+mono p.Mono)])
theorem zQ8 {x:Int} (h0:0≤x) (h1:x≤100):zKv (W64 (48+x))=UInt8.ofNat (48+x.toNat):=by
 rw [zAr (by omega) (by omega),show 48+x=((48+x.toNat:Nat):Int) by omega,zQ7,Nat.mod_eq_of_lt (by omega)]
def zd1 (p:Pt):List UInt8×Int:=if pcE p=0 then (zK7 p,0) else ([],pcE p)
theorem zZb (p:Pt) (h1:p.Hist.Pos.Counts.length≤1000000) (h2:p.Hist.Neg.Counts.length≤1000000):zJ0 p=some (zd1 p):=by
 unfold zJ0 zd1;rw [zN1 p h1 h2,zAn]
 by_cases h0:pcE p=0
 ·rw [if_neg (by simpa using h0),if_pos h0]
  have hp:=zL5 h0;obtain ⟨k1,k2,t1,t2,f1,f2,s1,s2,s3⟩:=zOt hp;have htl:=zQ9 hp.c
  have hT:zIc p.Name p.Attrs=some (p.Name++zJu (srt p.Attrs),0):=by rw [zZt,text,if_pos hp.c]
  have hbit:zKh p.Mono=some (mono p.Mono:Int):=by unfold zKh mono;cases p.Mono<;>rfl
  have hm1:mono p.Mono≤1:=by unfold mono;split<;>omega
  rw [hT,zAn];dsimp only;rw [zN0 (by simp only [List.length_append,List.length_cons,List.length_nil] at htl ⊢;omega),zAn,hbit,zAn,zN0 (by simp only [List.length_append,List.length_cons,List.length_nil] at htl ⊢;omega),zAn];rw [zQ8 (by omega) (by omega),zQ8 (by omega) (by omega),zQ8 (by omega) (by omega),Int.toNat_natCast];unfold zK7;simp only [List.append_assoc]
 ·rw [if_pos h0,if_neg h0]
theorem zax {a b:Nat} (ha:a≤100) (hb:b≤100):UInt8.ofNat (48+a)=UInt8.ofNat (48+b)↔a=b:=by
 constructor
 ·intro h
  have:=congrArg UInt8.toNat h;simp only [UInt8.toNat_ofNat'] at this
  omega
 ·rintro rfl;rfl
theorem zal {a b:Pt} (ha:PtR a) (hb:PtR b):zK7 a=zK7 b↔a.Name=b.Name∧a.Kind=b.Kind∧a.Temp=b.Temp∧a.Mono=b.Mono∧srt a.Attrs=srt b.Attrs:=by
 obtain ⟨k1,k2,t1,t2,_⟩:=zOt ha;obtain ⟨k3,k4,t3,t4,_⟩:=zOt hb
 have hm:∀ x:Bool,mono x≤1:=fun x=>by unfold mono;split<;>omega
 have hma:=hm a.Mono;have hmb:=hm b.Mono;unfold zK7
 constructor
 ·intro h
  obtain ⟨e1,e2⟩:=List.append_inj' h rfl;simp only [List.cons_append,List.nil_append,List.cons.injEq,and_true,true_and] at e2;obtain ⟨d1,d2,d3⟩:=e2;rw [zax (by omega) (by omega)] at d1 d2 d3;obtain ⟨n1,n2⟩:=(zX0 ha.c hb.c).1 e1;refine ⟨n1,by omega,by omega,?_,n2⟩;unfold mono at d3
  cases h1:a.Mono<;>cases h2:b.Mono<;>simp [h1,h2] at d3<;>rfl
 ·rintro ⟨n1,n2,n3,n4,n5⟩
  rw [n1,n2,n3,n4,n5]
end Go.Proofs.YthjhejgjcdajdaaGreatDoor
set_option maxRecDepth 20000
set_option linter.unusedVariables false
set_option linter.unusedSimpArgs false
namespace Go.Proofs.YthjhejgjcdajdaaGreatDoor
open Go Go.RowKit Go.Wk
abbrev zPt:Pt:=⟨[],[],0,0,false,0,0,0,0,0,h00,0⟩
def sPt (nm:Txt) (l:List Pr) (a b c:UInt8):Pt:=⟨nm,l,W64 ((a.toNat:Int)-48),W64 ((b.toNat:Int)-48),decide (((c).toNat:Int)=49),if W64 ((a.toNat:Int)-48)=3 then 1 else 0,1,0,0,0,h00,0⟩
def oPt (nm:Txt) (l:List Pr) (a b c:UInt8):Pt:=⟨nm,l,W64 ((a.toNat:Int)-48),W64 ((b.toNat:Int)-48),decide (((c).toNat:Int)=49),0,0,0,0,0,h00,0⟩
def zd0 (s:Txt):Pt×Int:=
 if (((zFs 32 s).2.2=true∧(zFs 32 s).2.1.length=3)∧(zPk (zFs 32 s).1).2.2.2=0)∧((zFs 32 s).2.1.getD 2 0=48∨(zFs 32 s).2.1.getD 2 0=49) ∧
  pcE (sPt (zPk (zFs 32 s).1).1 (zPk (zFs 32 s).1).2.1 ((zFs 32 s).2.1.getD 0 0) ((zFs 32 s).2.1.getD 1 0) ((zFs 32 s).2.1.getD 2 0))=0
 then (oPt (zPk (zFs 32 s).1).1 (zPk (zFs 32 s).1).2.1 ((zFs 32 s).2.1.getD 0 0) ((zFs 32 s).2.1.getD 1 0) ((zFs 32 s).2.1.getD 2 0),0) else (zPt,3)
theorem zcx (c:UInt8) (k:Nat) (hk:k<256):((c.toNat:Nat):Int)=(k:Int)↔c=UInt8.ofNat k:=by
 constructor
 ·intro h;apply UInt8.toNat_inj.1;rw [UInt8.toNat_ofNat'];omega
 ·rintro rfl;rw [UInt8.toNat_ofNat'];omega
theorem three {l:List UInt8} (h:l.length=3):∃ a b c,l=[a,b,c]:=by
 match l,h with
 | [a,b,c],_=>exact ⟨a,b,c,rfl⟩
theorem zUy (s:Txt) (hs:s.length≤10000):zI4 s=some (zd0 s):=by
 unfold zI4 zd0;have hl:=zOh (c:=32) (s:=s);rw [zMg s 32 (by omega),zAn];generalize hc:zFs 32 s=t at *;obtain ⟨p,q,f⟩:=t;dsimp only at hl ⊢;rw [zXp p (by omega),zAn];generalize zPk p=r;obtain ⟨nm,l,at_,e⟩:=r;dsimp only;simp only [zBm]
 by_cases h:(f=true∧q.length=3)∧e=0
 ·obtain ⟨⟨hf,hq⟩,he⟩:=h
  obtain ⟨a,b,c,rfl⟩:=three hq;subst hf he;rw [if_neg (show ¬(((!true)=true∨(0:Int)≠0)∨(([a,b,c]:List UInt8).length:Int)≠3) by simp),show idx [a,b,c] 2=some c from rfl,zAn,zAn,show idx [a,b,c] 0=some a from rfl,zAn,show idx [a,b,c] 1=some b from rfl,zAn,zAn];rw [show ([a,b,c]:List UInt8).getD 0 0=a from rfl,show ([a,b,c]:List UInt8).getD 1 0=b from rfl,show ([a,b,c]:List UInt8).getD 2 0=c from rfl]
  have fin:(if W64 ((a.toNat:Int)-48)=3 then (zDr ⟨nm,l,W64 ((a.toNat:Int)-48),W64 ((b.toNat:Int)-48),decide (((c).toNat:Int)=49),1,1,0,0,0,h00,0⟩).bind fun p54=>if p54≠0 then some (zPt,(3:Int)) else some (oPt nm l a b c,0) else (zDr ⟨nm,l,W64 ((a.toNat:Int)-48),W64 ((b.toNat:Int)-48),decide (((c).toNat:Int)=49),0,1,0,0,0,h00,0⟩).bind fun p54=>if p54≠0 then some (zPt,(3:Int)) else some (oPt nm l a b c,0))=some (if pcE (sPt nm l a b c)=0 then (oPt nm l a b c,0) else (zPt,3)):=by
   have e1:pcE (sPt nm l a b c)=pcE ⟨nm,l,W64 ((a.toNat:Int)-48),W64 ((b.toNat:Int)-48),decide (((c).toNat:Int)=49),if W64 ((a.toNat:Int)-48)=3 then 1 else 0,1,0,0,0,h00,0⟩:=rfl;rw [e1]
   by_cases h3:W64 ((a.toNat:Int)-48)=3
   ·rw [if_pos h3,if_pos h3,zN1 _ (by simp) (by simp),zAn]
    by_cases hh:pcE ⟨nm,l,W64 ((a.toNat:Int)-48),W64 ((b.toNat:Int)-48),decide (((c).toNat:Int)=49),1,1,0,0,0,h00,0⟩=0
    ·rw [if_neg (fun k=>k hh),if_pos hh]
    ·rw [if_pos hh,if_neg hh]
   ·rw [if_neg h3,if_neg h3,zN1 _ (by simp) (by simp),zAn]
    by_cases hh:pcE ⟨nm,l,W64 ((a.toNat:Int)-48),W64 ((b.toNat:Int)-48),decide (((c).toNat:Int)=49),0,1,0,0,0,h00,0⟩=0
    ·rw [if_neg (fun k=>k hh),if_pos hh]
    ·rw [if_pos hh,if_neg hh]
  by_cases h48:c=48
  ·rw [if_neg (show ¬((c.toNat:Int)≠48) by rw [h48];decide),if_neg (show ¬(false=true) by decide)]
   refine fin.trans ?_
   congr 1
   exact zTh ⟨fun h=>⟨⟨⟨rfl,rfl⟩,rfl⟩,Or.inl h48,h⟩,fun h=>h.2.2⟩ (fun _=>rfl) (fun _=>rfl)
  ·rw [if_pos (show (c.toNat:Int)≠48 from fun h=>h48 ((zcx c 48 (by omega)).1 h))]
   by_cases h49:c=49
   ·rw [if_neg (by rw [h49];decide)]
    refine fin.trans ?_
    congr 1
    exact zTh ⟨fun h=>⟨⟨⟨rfl,rfl⟩,rfl⟩,Or.inr h49,h⟩,fun h=>h.2.2⟩ (fun _=>rfl) (fun _=>rfl)
   ·rw [if_pos (decide_eq_true (show (c.toNat:Int)≠49 from fun h=>h49 ((zcx c 49 (by omega)).1 h))),if_neg (fun h=>h.2.1.elim h48 h49)]
 ·rw [if_neg (c:=((f=true∧q.length=3)∧e=0)∧_) (fun k=>h k.1),if_pos,if_pos (by first | trivial | rfl)]
  cases f with
  | false=>exact Or.inl (Or.inl rfl)
  | true=>
   by_cases hq:q.length=3
   ·exact Or.inl (Or.inr fun he=>h ⟨⟨rfl,hq⟩,he⟩)
   ·exact Or.inr (by omega)
end Go.Proofs.YthjhejgjcdajdaaGreatDoor
set_option maxRecDepth 20000
set_option pp.deepTerms true
set_option linter.unusedVariables false
set_option linter.unusedSimpArgs false
namespace Go.Proofs.YthjhejgjcdajdaaGreatDoor
open Go Go.RowKit Go.Wk
end Go.Proofs.YthjhejgjcdajdaaGreatDoor
set_option maxRecDepth 20000
set_option linter.unusedVariables false
set_option linter.unusedSimpArgs false
namespace Go.Proofs.YthjhejgjcdajdaaGreatDoor
open Go Go.RowKit Go.Wk
theorem zYj:zFn=some true:=by decide +kernel
theorem zW3:∀ {l:List Pr},l.Pairwise (fun a b=>Op.bytesLess a.Key b.Key=false)→zcu l
 | [],_=>trivial
 | [_],_=>trivial
 | a::b::l,h=>by
  have h':=List.pairwise_cons.1 h;exact ⟨h'.1 b (by simp),zW3 h'.2⟩
theorem zZy (l:List Pr):srt (srt l)=srt l:=zc0 (zW3 (by rw [List.pairwise_reverse];exact zYx l))
theorem zPc {name:Txt} {l:List Pr} (h:zIt name l=0):zIt name (srt l)=0:=by
 obtain ⟨h1,h2,h3⟩:=zN h;unfold zIt;rw [if_pos h1,if_neg (by rw [zM3];omega)];exact zSi h3
theorem zVm {s:Txt} (h:zHn s=true):∀ x∈s,x≠32:=by
 intro x hx;unfold zHn at h
 match s,h,hx with
 | c::t,h,hx=>
  simp only [Bool.and_eq_true,List.all_eq_true] at h;rintro rfl
  rcases List.mem_cons.1 hx with e|e
  ·have:=h.2.1;rw [← e] at this;exact absurd this (by decide)
  ·exact absurd (h.2.2 _ e) (by decide)
theorem zbp {s:Txt} (h:zPi s=true):∀ x∈s,x≠32:=by
 intro x hx;unfold zPi at h;simp only [Bool.and_eq_true,List.all_eq_true] at h;rintro rfl;exact absurd (h.2 _ hx) (by decide)
theorem zZu {name:Txt} {l:List Pr} (h:zIt name l=0):∀ x∈name++zJu (srt l),x≠32:=by
 obtain ⟨h1,h2,h3⟩:=zN (zPc h);have hk:=zW8 _ _ h3;intro x hx
 rcases List.mem_append.1 hx with e|e
 ·exact zVm h1 x e
 ·unfold zJu at e
  obtain ⟨a,ha,hxa⟩:=List.mem_flatMap.1 e;obtain ⟨k1,k2,_⟩:=hk a ha;unfold at1 at hxa;simp only [List.mem_append,List.mem_singleton] at hxa
  rcases hxa with ((e|e)|e)|e
  ·rw [e];decide
  ·exact zVm k1 x e
  ·rw [e];decide
  ·exact zbp k2 x e
theorem zP9:∀ (p q:Txt),(∀ x∈p,x≠32)→zFs 32 (p++32::q)=(p,q,true)
 | [],q,_=>by rw [List.nil_append,zFs,if_pos rfl]
 | c::p,q,h=>by
  rw [List.cons_append,zFs,if_neg (h c (by simp)),zP9 p q (fun x hx=>h x (by simp [hx]))]
theorem zVy:hcE h00=0:=by decide
theorem zU {p:Pt} (h:PtR p) (st:Int) (hst:st=if p.Kind=3 then 1 else 0) (hm:p.Mono=true→p.Kind=1∨p.Kind=2):pcE ⟨p.Name,srt p.Attrs,p.Kind,p.Temp,p.Mono,st,1,0,0,0,h00,0⟩=0:=by
 have hk:=h.k;unfold pcE
 have f0:zWo 0=true:=by decide
 have l0:ltZ 0=false:=by decide
 have b0:zL h00=true:=by decide
 have hkb:zKu ⟨p.Name,srt p.Attrs,p.Kind,p.Temp,p.Mono,st,1,0,0,0,h00,0⟩=true:=hk
 have htb:zJn ⟨p.Name,srt p.Attrs,p.Kind,p.Temp,p.Mono,st,1,0,0,0,h00,0⟩=true:=by
  unfold zJn;rw [decide_eq_true_iff];dsimp only
  by_cases h3:p.Kind=3
  ·rw [if_pos h3] at hst ⊢;omega
  ·rw [if_neg h3] at hst ⊢;omega
 have hob:zS9 ⟨p.Name,srt p.Attrs,p.Kind,p.Temp,p.Mono,st,1,0,0,0,h00,0⟩=true:=by
  unfold zS9;rw [decide_eq_true_iff];exact ⟨fun _=>rfl,fun _=>rfl,fun _=>rfl,fun _=>b0,show (0:Int)≤0 by decide,show (0:Int)≤31 by decide⟩
 rw [hkb,htb,hob];dsimp only;rw [zPc h.c,if_neg (by decide),if_neg (by decide),if_neg (fun k=>by have:=hm k.1;omega),if_neg (by decide),if_neg (by decide),f0,if_neg (by simp),l0,if_neg (by simp),zVy]
 split<;>rfl
theorem zXn {p:Pt} (h:pcE p=0):p.Mono=true→p.Kind=1∨p.Kind=2:=by
 intro hm;unfold pcE at h
 by_cases c:zIt p.Name p.Attrs≠0
 ·rw [if_pos c] at h;exact (c h).elim
 rw [if_neg c] at h
 by_cases k:zKu p=false
 ·rw [if_pos k] at h;exact absurd h (by decide)
 rw [if_neg k] at h
 by_cases s:p.Mono=true∧p.Kind≠1∧p.Kind≠2
 ·rw [if_pos s] at h;exact absurd h (by decide)
 by_cases a:p.Kind=1
 ·exact Or.inl a
 ·by_cases b:p.Kind=2
  ·exact Or.inr b
  ·exact (s ⟨hm,a,b⟩).elim
theorem zTo {k:Nat} (h:k≤9):W64 (((UInt8.ofNat (48+k)).toNat:Int)-48)=(k:Int):=by
 rw [UInt8.toNat_ofNat',zAr (by omega) (by omega)];omega
theorem zX8 {p:Pt} (h:pcE p=0):zd0 (zK7 p)=(⟨p.Name,srt p.Attrs,p.Kind,p.Temp,p.Mono,0,0,0,0,0,h00,0⟩,0):=by
 have r:=zL5 h;obtain ⟨k1,k2,t1,t2,_⟩:=zOt r
 have hc:zFs 32 (zK7 p)=(p.Name++zJu (srt p.Attrs),[UInt8.ofNat (48+p.Kind.toNat),UInt8.ofNat (48+p.Temp.toNat),UInt8.ofNat (48+mono p.Mono)],true):=by
  unfold zK7;exact zP9 _ _ (zZu r.c)
 have hd:decide (((UInt8.ofNat (48+mono p.Mono)).toNat:Int)=49)=p.Mono:=by unfold mono;cases p.Mono<;>decide
 have e1:W64 (((UInt8.ofNat (48+p.Kind.toNat)).toNat:Int)-48)=p.Kind:=by rw [zTo (by omega)];omega
 have e2:W64 (((UInt8.ofNat (48+p.Temp.toNat)).toNat:Int)-48)=p.Temp:=by rw [zTo (by omega)];omega
 unfold zd0;rw [hc];dsimp only;rw [zN6 r.c];dsimp only;rw [show ∀ a b c:UInt8,([a,b,c]:List UInt8).getD 0 0=a from fun _ _ _=>rfl,show ∀ a b c:UInt8,([a,b,c]:List UInt8).getD 1 0=b from fun _ _ _=>rfl,show ∀ a b c:UInt8,([a,b,c]:List UInt8).getD 2 0=c from fun _ _ _=>rfl];unfold sPt oPt;rw [e1,e2,hd,if_pos];refine ⟨⟨⟨rfl,rfl⟩,rfl⟩,?_,zU r _ rfl (zXn h)⟩;unfold mono;cases p.Mono
 ·exact Or.inl rfl
 ·exact Or.inr rfl
end Go.Proofs.YthjhejgjcdajdaaGreatDoor
set_option maxRecDepth 20000
set_option linter.unusedVariables false
set_option linter.unusedSimpArgs false
namespace Go.Proofs.YthjhejgjcdajdaaGreatDoor
open Go Go.RowKit Go.Wk
theorem zYo (x k:Nat) (hk:k≤8) (hx:x<256):x&&&(255*2^k%256)=x/2^k*2^k:=by
 have h:∀ k,k≤8→∀ x,x<256→x&&&(255*2^k%256)=x/2^k*2^k:=by decide +kernel
 exact h k hk x hx
theorem zYg {B K:List Bool} (hB:B.length≤8):zI0 ((B++K).take 8)&&&shl8 255 (8-B.length)=zI0 B:=by
 apply UInt8.toNat_inj.1
 have hb:=(zI0 ((B++K).take 8)).toNat_lt
 have e:(B++K).take 8=B++K.take (8-B.length):=by rw [List.take_append,List.take_of_length_le hB]
 rw [UInt8.toNat_and,zSy,show (255:UInt8).toNat=255 from rfl,zYo _ _ (by omega) (by omega),zK9 hB,zK9 (by simp;omega),e,zH5];have hk:=zGl (K.take (8-B.length))
 have hl:(K.take (8-B.length)).length≤8-B.length:=by simp;omega
 generalize K.take (8-B.length)=T at hk hl;rw [List.length_append];have hp:=Nat.two_pow_pos (8-B.length)
 have e1:2^T.length*2^(8-(B.length+T.length))=2^(8-B.length):=by rw [← Nat.pow_add];congr 1;omega
 have h2:numB T*2^(8-(B.length+T.length))<2^(8-B.length):=by rw [← e1];exact Nat.mul_lt_mul_of_pos_right hk (Nat.two_pow_pos _)
 congr 1
 rw [Nat.add_mul,Nat.mul_assoc,e1,Nat.add_comm,Nat.add_mul_div_right _ _ hp,Nat.div_eq_of_lt h2,Nat.zero_add]
theorem zZp {M K:List Bool} (h:(M++K).length≤8000000000):zG4 (WrO (M++K)) (M.length:Int)=some (true,WrO M):=by
 rw [List.length_append] at h;unfold zG4;simp only [zBm];rw [if_neg (by omega),decide_eq_false (by simp only [List.length_append];omega),if_neg (by decide),zAr (by omega) (by omega),show ((M.length:Int)+7)=((M.length+7:Nat):Int) by omega,show (8:Int)=((8:Nat):Int) from rfl,zLm (by decide) (by omega),zAn,zQr (by omega) (by omega) (by rw [zEj,List.length_append];omega),zAn,zMj (by decide),zAn,Int.toNat_natCast];obtain ⟨q,A,B,hAB,hA,hB,hBl,hq⟩:=cut8 M
 have hl:M.length=8*q+B.length:=by rw [hAB,List.length_append,hA]
 have hlen:(zD9 A).length=q:=by rw [zEj,hA];omega
 have ep:zD9 (M++K)=zD9 A++zD9 (B++K):=by rw [hAB,List.append_assoc,zL6 q A _ hA]
 by_cases h0:B.length=0
 ·obtain rfl:B=[]:=List.eq_nil_of_length_eq_zero h0
  have hMA:M=A:=by rw [hAB,List.append_nil]
  rw [if_neg (by omega),ep,show (M.length+7)/8=q by omega,show ((0:Int).toNat)=0 from rfl,List.drop_zero,List.take_append_of_le_length (by omega),List.take_of_length_le (by omega),hMA]
 ·have hne:B++K≠[]:=by intro hh;exact h0 (by rw [(List.append_eq_nil_iff.1 hh).1];rfl)
  rw [if_pos (by omega),show ((0:Int).toNat)=0 from rfl,List.drop_zero,show (M.length+7)/8=q+1 by omega,ep,zLn hne,List.take_append,hlen,List.take_of_length_le (by omega),show q+1-q=1 by omega,List.take_succ_cons,List.take_zero]
  have e1:W64 (((zD9 A++[zI0 ((B++K).take 8)]).length:Int)-1)=((zD9 A).length:Int):=by rw [List.length_append,hlen];simp only [List.length_cons,List.length_nil];rw [zAr (by omega) (by omega)];omega
  have e3:(zAe (W64 (((8:Nat):Int)-((M.length%8:Nat):Int)))).toNat=8-B.length:=by rw [zAr (by omega) (by omega),show ((8:Nat):Int)-((M.length%8:Nat):Int)=((8-B.length:Nat):Int) by omega,zCl (by omega)]
  rw [e1,zGp,zAn,zAn,e3,zYg (by omega),zR5]
  have:zD9 M=zD9 A++[zI0 B]:=by rw [hAB,zL6 q A _ hA,zKd (l:=B) (by intro hh;exact h0 (by rw [hh];rfl)) (by omega)]
  rw [WrO,this]
theorem zUh {M:List Bool} (h:M.length≤8000000000):zF6 (WrO M)=some (zD9 M):=by
 unfold zF6 zDs;rw [zDg (by rw [zEj];simp only [List.length_nil];omega),zAn,List.nil_append]
end Go.Proofs.YthjhejgjcdajdaaGreatDoor
set_option maxRecDepth 20000
namespace Go.Proofs.YthjhejgjcdajdaaGreatDoor
open Go Go.RowKit Go.Wk
abbrev It:=zAm
structure Acc where
 O:List Int
 T:List Int
 S:List Int
 I:List Int
 A:List UInt64
 B:List UInt64
 H:List zA3
abbrev zbf:Acc:=⟨[],[],[],[],[],[],[]⟩
def spn (p:Pt):Int:=W64 (p.Time-p.Start)
def zL0 (a:Acc) (x:It):Acc:=
 ⟨a.O++[x.Ord],a.T++[x.Point.Time],if x.Point.Kind=3 then a.S else a.S++[spn x.Point],if x.Point.Kind=1 then a.I++[x.Point.Int_] else a.I,
  if x.Point.Kind=1∨x.Point.Kind=4 then a.A else a.A++[x.Point.Re],if x.Point.Kind=5 then a.B++[x.Point.Im] else a.B,if x.Point.Kind=4 then a.H++[x.Point.Hist] else a.H⟩
abbrev flB (A:List UInt64) (v:UInt64):List Bool:=(xB A.length (zO4 A) v (zTv A)).1
def zL2 (a:Acc) (p:Pt):List Bool:=
 if p.Kind=1 then zNp (zGr a.I) p.Int_ else if p.Kind=4 then hB a.H.length (zO5 a.H) p.Hist
 else if p.Kind=5 then flB a.A p.Re++flB a.B p.Im else flB a.A p.Re
def zUt (a:Acc) (p:Pt):List Bool:=if p.Kind=3 then [] else zNp (zGr a.S) (spn p)
def itB (a:Acc) (x:It):List Bool:=zNp (zGr a.O) x.Ord++(zNp (zGr a.T) x.Point.Time++(zUt a x.Point++(smB x.Point.Flags.toNat++zL2 a x.Point)))
def zUb (l:List It):Acc:=l.foldl zL0 zbf
theorem zRx (l:List It) (x:It):zUb (l++[x])=zL0 (zUb l) x:=by unfold zUb;rw [List.foldl_append];rfl
def zPh:Acc→List It→List Bool
 | _,[]=>[]
 | a,x::t=>itB a x++zPh (zL0 a x) t
abbrev zE4 (l:List It):List Bool:=zPh zbf l
theorem zV4 (x:It) (l:List It):∀ a:Acc,zPh a (l++[x])=zPh a l++itB (l.foldl zL0 a) x:=by
 induction l with
 | nil=>intro a;rw [List.nil_append,zPh,zPh,zPh,List.append_nil,List.nil_append,List.foldl_nil]
 | cons y t ih=>intro a;rw [List.cons_append,zPh,ih,zPh,List.append_assoc,List.foldl_cons]
theorem zNk (l:List It) (x:It):zE4 (l++[x])=zE4 l++itB (zUb l) x:=zV4 x l zbf
structure ItR (x:It):Prop where
 k0:1≤x.Point.Kind
 k1:x.Point.Kind≤5
 o:okI x.Ord
 t:okI x.Point.Time
 i:okI x.Point.Int_
 f0:0≤x.Point.Flags
 f1:x.Point.Flags≤31
 h:hcE x.Point.Hist=0
structure zWk (n:Nat) (a:Acc):Prop where
 o:a.O.length≤n∧∀ x∈a.O,okI x
 t:a.T.length≤n∧∀ x∈a.T,okI x
 s:a.S.length≤n∧∀ x∈a.S,okI x
 i:a.I.length≤n∧∀ x∈a.I,okI x
 re:a.A.length≤n
 im:a.B.length≤n
 h:a.H.length≤n∧∀ x∈a.H,HOk x
theorem zad (z:Int):okI (W64 z):=by
 unfold okI W64 IntKind.wrap;simp [IntKind.signed,IntKind.bits]
 split<;>omega
theorem zWf:zWk 0 zbf:=⟨⟨by simp,by simp⟩,⟨by simp,by simp⟩,⟨by simp,by simp⟩,⟨by simp,by simp⟩,by simp,by simp,⟨by simp,by simp⟩⟩
theorem zOl {α:Type} {P:α→Prop} {l:List α} {n:Nat} {x:α} (h:l.length≤n∧∀ y∈l,P y) (hx:P x):(l++[x]).length≤n+1∧∀ y∈l++[x],P y:=
 ⟨by simp;exact h.1,fun y hy=>(List.mem_append.1 hy).elim (h.2 y) (fun e=>by rw [List.mem_singleton.1 e];exact hx)⟩
theorem zZq {α:Type} {P:α→Prop} {l:List α} {n:Nat} (h:l.length≤n∧∀ y∈l,P y):l.length≤n+1∧∀ y∈l,P y:=⟨Nat.le_succ_of_le h.1,h.2⟩
theorem zWg {n:Nat} {a:Acc} {x:It} (h:zWk n a) (hx:ItR x):zWk (n+1) (zL0 a x):=by
 refine ⟨zOl h.o hx.o,zOl h.t hx.t,?_,?_,?_,?_,?_⟩<;>unfold zL0<;>dsimp only<;>split
 ·exact zZq h.s
 ·exact zOl h.s (zad _)
 ·exact zOl h.i hx.i
 ·exact zZq h.i
 ·exact Nat.le_succ_of_le h.re
 ·simp;exact h.re
 ·simp;exact h.im
 ·exact Nat.le_succ_of_le h.im
 ·exact zOl h.h (zP4 hx.h)
 ·exact zZq h.h
theorem zWh {l:List It} (h:∀ x∈l,ItR x):zWk l.length (zUb l):=by
 have key:∀ (l:List It) (n:Nat) (a:Acc),zWk n a→(∀ x∈l,ItR x)→zWk (n+l.length) (l.foldl zL0 a):=by
  intro l
  induction l with
  | nil=>intro n a ha _;exact ha
  | cons x t ih=>
   intro n a ha hl;have:=ih (n+1) _ (zWg ha (hl x (by simp))) (fun y hy=>hl y (by simp [hy]));rw [show n+1+t.length=n+(x::t).length by simp;omega] at this;exact this
 have:=key l 0 zbf zWf h;rwa [Nat.zero_add] at this
theorem zZd {n:Nat} {a:Acc} {x:It} (h:zWk n a) (hx:ItR x):(itB a x).length≤30300:=by
 have h1:=zM4 (zGr a.O) x.Ord;have h2:=zM4 (zGr a.T) x.Point.Time
 have h3:(zUt a x.Point).length≤69:=by
  unfold zUt;split
  ·simp
  ·exact zM4 _ _
 have h4:=zOm x.Point.Flags.toNat
 have h5:(zL2 a x.Point).length≤30000:=by
  have e1:=(zZn a.A.length (zO4 a.A) x.Point.Re (zLj a.A)).1;have e2:=(zZn a.B.length (zO4 a.B) x.Point.Im (zLj a.B)).1;have e3:=(hB_le (n:=a.H.length) (last:=zO5 a.H) (zP4 hx.h)).1;have e4:=zM4 (zGr a.I) x.Point.Int_;unfold zL2 flB
  (repeat' split)<;>(try rw [List.length_append])<;>omega
 unfold itB;simp only [List.length_append];omega
theorem zOj {l:List It} (h:∀ x∈l,ItR x):(zE4 l).length≤30300*l.length:=by
 have key:∀ (l:List It) (n:Nat) (a:Acc),zWk n a→(∀ x∈l,ItR x)→(zPh a l).length≤30300*l.length:=by
  intro l
  induction l with
  | nil=>intro n a _ _;simp [zPh]
  | cons x t ih=>
   intro n a ha hl;have h1:=zZd ha (hl x (by simp));have h2:=ih (n+1) _ (zWg ha (hl x (by simp))) (fun y hy=>hl y (by simp [hy]));rw [zPh,List.length_append,List.length_cons];omega
 exact key l 0 zbf zWf h
abbrev xrA (A:List UInt64):zAg:=⟨(A.length:Int),zO4 A,zMd (zTv A)⟩
abbrev hrA (H:List zA3):zA4:=⟨(H.length:Int),zO5 H⟩
abbrev zMi (a:Acc):zAj:=⟨zGr a.O,zGr a.T,zGr a.S,zGr a.I,xrA a.A,xrA a.B,hrA a.H⟩
theorem zQf {n:Nat} {xs:List Int} (h:xs.length≤n) (hn:n≤1000):0≤(zGr xs).n∧(zGr xs).n≤1000000000:=by rw [zV7];omega
theorem zQ0 (A:List UInt64) (v:UInt64):zO4 (A++[v])=v:=by simp [zO4]
theorem zQ1 (A:List zA3) (v:zA3):zO5 (A++[v])=v:=by simp [zO5]
theorem zQ5 {A:List UInt64} {M:List Bool} (v:UInt64) (hA:A.length≤1000) (hM:M.length≤6000000000):zDp (xrA A) (WrO M) v=some (WrO (M++flB A v),xrA (A++[v])):=by
 rw [zZk (zLj A) (by omega) hM];unfold flB xrA;rw [zQ0,zPr,List.length_append];rfl
theorem zP3 {n:Nat} {H:List zA3} (h:H.length≤n∧∀ x∈H,HOk x):(zO5 H).Pos.Counts.length≤1000∧(zO5 H).Neg.Counts.length≤1000:=by
 unfold zO5
 cases hl:H.getLast? with
 | none=>rw [List.getLast?_eq_none_iff.1 hl];exact ⟨by simp,by simp⟩
 | some z=>
  have hz:=List.mem_of_getLast? hl
  have e:H.getLastD h00=z:=by rw [List.getLastD_eq_getLast?,hl];rfl
  have:=h.2 z hz;rw [e];exact ⟨by have:=this.p;omega,by have:=this.n;omega⟩
theorem zY2 {n:Nat} {H:List zA3} {M:List Bool} {h:zA3} (hH:H.length≤n∧∀ x∈H,HOk x) (hn:n≤1000) (hM:M.length≤6000000000) (hc:hcE h=0) :
 zE1 (hrA H) (WrO M) h=some (0,hrA (H++[h]),WrO (M++hB H.length (zO5 H) h)):=by
 have:=zP4 hc;have p:=this.p;have q:=this.n;have e:=zP3 hH;rw [zam (by omega) hM (by omega) (by omega) (by omega) (by omega),if_pos hc];unfold hrA;rw [zQ1,List.length_append];rfl
theorem zaz {n:Nat} {a:Acc} {M:List Bool} {x:It} (ha:zWk n a) (hn:n≤1000) (hx:ItR x) (hM:M.length≤5000000000) :
 zGx (zMi a) (WrO M) x.Ord x.Point=some (zGr (zL0 a x).O,zGr (zL0 a x).T,zGr (zL0 a x).S,zGr (zL0 a x).I,xrA (zL0 a x).A,xrA (zL0 a x).B,hrA (zL0 a x).H,WrO (M++itB a x)):=by
 have n1:=zM4 (zGr a.O) x.Ord;have n2:=zM4 (zGr a.T) x.Point.Time;have n3:=zM4 (zGr a.S) (spn x.Point);have n4:=zOm x.Point.Flags.toNat;have n5:=(zZn a.A.length (zO4 a.A) x.Point.Re (zLj a.A)).1
 have hfl:(zAe x.Point.Flags).toNat=x.Point.Flags.toNat:=by
  have:=hx.f0;have:=hx.f1;rw [zJv];omega
 have tail:∀ (y:zA8) (K:List Bool),K.length≤5500000000→((zGa (WrO K) (zAe x.Point.Flags)).bind fun p44=>
  if x.Point.Kind=1 then
  ((zEf (zGr a.I) p44 x.Point.Int_).bind fun p49=>
   some (zRp (zGr a.O) (zAe x.Ord),zRp (zGr a.T) (zAe x.Point.Time),y,p49.2,xrA a.A,xrA a.B,hrA a.H,p49.1))
  else
  (if x.Point.Kind=4 then
   ((zE1 (hrA a.H) p44 x.Point.Hist).bind fun p62=>
    some (zRp (zGr a.O) (zAe x.Ord),zRp (zGr a.T) (zAe x.Point.Time),y,zGr a.I,xrA a.A,xrA a.B,p62.2.1,p62.2.2))
   else
   (if x.Point.Kind=5 then
    ((zDp (xrA a.A) p44 x.Point.Re).bind fun p74=>
     (zDp (xrA a.B) p74.1 x.Point.Im).bind fun p84=>
     some (zRp (zGr a.O) (zAe x.Ord),zRp (zGr a.T) (zAe x.Point.Time),y,zGr a.I,p74.2,p84.2,hrA a.H,p84.1))
    else
    ((zDp (xrA a.A) p44 x.Point.Re).bind fun p102=>
     some (zRp (zGr a.O) (zAe x.Ord),zRp (zGr a.T) (zAe x.Point.Time),y,zGr a.I,p102.2,xrA a.B,hrA a.H,p102.1))))) =
  some (zGr (zL0 a x).O,zGr (zL0 a x).T,y,zGr (zL0 a x).I,xrA (zL0 a x).A,xrA (zL0 a x).B,hrA (zL0 a x).H,WrO (K++(smB x.Point.Flags.toNat++zL2 a x.Point))):=by
  intro y K hK;rw [zS _ (by omega),zAn,hfl];unfold zL0 zL2;dsimp only;rw [zL4,zL4]
  by_cases k1:x.Point.Kind=1
  ·rw [if_pos k1,zQe (M:=K++smB x.Point.Flags.toNat) (zQf ha.i.1 hn) hx.i (by rw [List.length_append];omega),zAn,if_pos k1,if_pos (Or.inl k1),if_neg (show ¬x.Point.Kind=5 by omega),if_neg (show ¬x.Point.Kind=4 by omega),if_pos k1,zL4,List.append_assoc]
  rw [if_neg k1,if_neg k1,if_neg k1]
  by_cases k4:x.Point.Kind=4
  ·rw [if_pos k4,zY2 (M:=K++smB x.Point.Flags.toNat) ha.h hn (by rw [List.length_append];omega) hx.h,zAn,if_pos (Or.inr k4),if_neg (show ¬x.Point.Kind=5 by omega),if_pos k4,if_pos k4,List.append_assoc]
  rw [if_neg k4,if_neg (show ¬(x.Point.Kind=1∨x.Point.Kind=4) by omega),if_neg k4,if_neg k4]
  by_cases k5:x.Point.Kind=5
  ·rw [if_pos k5,zQ5 (M:=K++smB x.Point.Flags.toNat) _ (Nat.le_trans ha.re hn) (by rw [List.length_append];omega),zAn,zQ5 _ (Nat.le_trans ha.im hn) (by simp only [List.length_append,flB];omega),zAn,if_pos k5,if_pos k5];simp only [List.append_assoc]
  ·rw [if_neg k5,zQ5 (M:=K++smB x.Point.Flags.toNat) _ (Nat.le_trans ha.re hn) (by rw [List.length_append];omega),zAn,if_neg k5,if_neg k5,List.append_assoc]
 unfold zGx;dsimp only;rw [zQe (zQf ha.o.1 hn) hx.o (by omega),zAn,zQe (zQf ha.t.1 hn) hx.t (by rw [List.length_append];omega),zAn,zBm];dsimp only
 by_cases k3:x.Point.Kind=3
 ·rw [if_neg (show ¬x.Point.Kind≠3 by omega),tail _ _ (by rw [List.length_append,List.length_append];omega)]
  unfold itB zUt;rw [if_pos k3,show (zL0 a x).S=a.S by unfold zL0;dsimp only;rw [if_pos k3],List.append_assoc,List.append_assoc,List.nil_append]
 ·rw [if_pos k3,show W64 (x.Point.Time-x.Point.Start)=spn x.Point from rfl,zQe (M:=M++zNp (zGr a.O) x.Ord++zNp (zGr a.T) x.Point.Time) (v:=spn x.Point) (zQf ha.s.1 hn) (zad _) (by rw [List.length_append,List.length_append];omega),zAn,tail _ _ (by rw [List.length_append,List.length_append,List.length_append];omega)]
  unfold itB zUt;rw [if_neg k3,show (zL0 a x).S=a.S++[spn x.Point] by unfold zL0;dsimp only;rw [if_neg k3],zL4];simp only [List.append_assoc]
end Go.Proofs.YthjhejgjcdajdaaGreatDoor
set_option maxRecDepth 20000
set_option linter.unusedVariables false
set_option linter.unusedSimpArgs false
namespace Go.Proofs.YthjhejgjcdajdaaGreatDoor
open Go Go.RowKit Go.Wk
theorem app1 {α:Type} {l:List α} {x:α} (h:l.length≤1000000):zLr l [x]=some (l++[x]):=zDg (by simp;omega)
end Go.Proofs.YthjhejgjcdajdaaGreatDoor
set_option maxRecDepth 20000
set_option linter.unusedVariables false
set_option linter.unusedSimpArgs false
namespace Go.Proofs.YthjhejgjcdajdaaGreatDoor
open Go Go.RowKit Go.Wk
end Go.Proofs.YthjhejgjcdajdaaGreatDoor
set_option maxRecDepth 20000
set_option linter.unusedVariables false
set_option linter.unusedSimpArgs false
namespace Go.Proofs.YthjhejgjcdajdaaGreatDoor
open Go Go.RowKit Go.Wk
def hdB (k:List UInt8) (n:Nat) (M:List Bool):List UInt8:=(zQq k++enc (UInt64.ofNat n))++enc (UInt64.ofNat M.length)
def chB (k:List UInt8) (n:Nat) (M:List Bool):List UInt8:=hdB k n M++zD9 M
theorem zTm {k:List UInt8} (n:Nat) (M:List Bool) (hk:k.length≤100000):(hdB k n M).length≤200000:=by
 have h1:=zIw (UInt64.ofNat k.length);have h2:=zIw (UInt64.ofNat n);have h3:=zIw (UInt64.ofNat M.length);unfold hdB zQq;simp only [List.length_append];omega
theorem zPw (n:Nat):zAe (n:Int)=UInt64.ofNat n:=by
 apply UInt64.toNat_inj.1
 rw [zJv,UInt64.toNat_ofNat'];omega
theorem zVx {k:List UInt8} {mo la:Int} {ro:zAj} {n:Nat} {M:List Bool} (hk:k.length≤100000) :
 zF ⟨k,mo,(n:Int),la,WrO M,ro⟩=some ⟨hdB k n M⟩:=by
 unfold zF zIi zDd hdB;have h1:=zIw (UInt64.ofNat k.length);have h2:=zIw (UInt64.ofNat n)
 have hT:(zQq k).length≤100009:=by unfold zQq;rw [List.length_append];omega
 dsimp only;rw [zAn,zWu _ _ (by simp) (by omega),zAn,List.nil_append,zPw,zRy _ _ (by omega),zAn,zAn,zPw,zRy _ _ (by rw [List.length_append];omega),zAn]
theorem za {k:List UInt8} {mo la:Int} {ro:zAj} {n:Nat} {M:List Bool} (hk:k.length≤100000) (hM:M.length≤6000000000) :
 zG3 ⟨k,mo,(n:Int),la,WrO M,ro⟩=some ((chB k n M).length:Int):=by
 have hh:=zTm n M hk;unfold zG3;rw [zVx hk,zAn];unfold zHr zDd chB;dsimp only;rw [zAn,zAn,zAr (z:=(M.length:Int)+7) (by omega) (by omega),show (M.length:Int)+7=((M.length+7:Nat):Int) by omega,show (8:Int)=((8:Nat):Int) from rfl,zLm (by decide) (by omega),zAn,List.length_append,zEj,zAr (by omega) (by omega)];rfl
theorem zWa {k:List UInt8} {mo la:Int} {ro:zAj} {n:Nat} {M:List Bool} (hk:k.length≤100000) (hM:M.length≤6000000000) :
 zEl ⟨k,mo,(n:Int),la,WrO M,ro⟩=some (chB k n M):=by
 have hh:=zTm n M hk;have hp:=zEj M;unfold zEl;rw [zVx hk,zAn];dsimp only;rw [zUh (by omega),zAn];unfold zHq zGy;dsimp only;rw [zDg (by omega),zAn,zAn];dsimp only;rw [zOi _ (by rw [List.length_append];omega),zAn,zAn];rfl
def zNe (l:List It):Int:=match l.getLast? with
 | none=>-1
 | some x=>x.Ord
theorem zLq (l:List It) (x:It):zNe (l++[x])=x.Ord:=by unfold zNe;rw [List.getLast?_append];rfl
abbrev chS (k:List UInt8) (mo:Int) (l:List It):zAc:=⟨k,mo,(l.length:Int),zNe l,WrO (zE4 l),zMi (zUb l)⟩
def zbe (k:List UInt8) (l:List It) (mo:Int) (x:It):Int:=
 if pcE x.Point≠0 then pcE x.Point else if zK7 x.Point≠k then 14 else if x.Ord<0∨x.Ord>4503599627370496 then 1
 else if x.Ord≤zNe l then 9 else if l.length=128 then 6 else if ((chB k (l.length+1) (zE4 (l++[x]))).length:Int)>mo then 6 else 0
theorem zZc {x:It} (h:pcE x.Point=0) (ho:¬(x.Ord<0∨x.Ord>4503599627370496)) (hi:okI x.Point.Int_) (hh:hcE x.Point.Hist=0):ItR x:=by
 obtain ⟨k1,k2,t1,t2,f0,f1,s0,s1,tt⟩:=zOt (zL5 h);exact ⟨k1,k2,by unfold okI;omega,by unfold okI;omega,hi,f0,f1,hh⟩
theorem zW9 {n:Nat} {a:Acc} (ha:zWk n a) (hn:n≤1000):zG2 (zMi a)=some (zMi a):=by
 have e:=zP3 ha.h;unfold zG2 zEv zH6 zGm;simp only [zAn];rw [zMx _ (by omega) (by omega),zAn,zAn]
theorem zWb {k:List UInt8} {l:List It} {x:It} (mo:Int) (hk:k.length≤100000) (hl:l.length≤400) (ok:∀ x∈l,ItR x) (hi:okI x.Point.Int_) (hh:pcE x.Point=0→hcE x.Point.Hist=0)
 (h1:x.Point.Hist.Pos.Counts.length≤1000000) (h2:x.Point.Hist.Neg.Counts.length≤1000000) :
 zDn (chS k mo l) x.Ord x.Point=some (zbe k l mo x,if zbe k l mo x=0 then chS k mo (l++[x]) else chS k mo l):=by
 unfold zDn zbe;rw [zZb _ h1 h2,zAn];unfold zd1
 by_cases hp:pcE x.Point=0
 ·rw [if_pos hp,if_neg (show ¬(0:Int)≠0 by decide),if_neg (show ¬pcE x.Point≠0 by omega)]
  dsimp only
  by_cases hke:zK7 x.Point≠k
  ·rw [if_pos hke,if_pos hke];rfl
  rw [if_neg hke,if_neg hke]
  by_cases ho:x.Ord<0∨x.Ord>4503599627370496
  ·rw [if_pos ho,if_pos ho];rfl
  rw [if_neg ho,if_neg ho]
  by_cases hlo:x.Ord≤zNe l
  ·rw [if_pos hlo,if_pos hlo];rfl
  rw [if_neg hlo,if_neg hlo]
  by_cases h128:l.length=128
  ·rw [if_pos (by omega),if_pos h128];rfl
  rw [if_neg (by omega),if_neg h128,zBm];have hx:=zZc hp ho hi (hh hp);have hb:=zOj ok;have ha:=zWh ok;have hit:=zZd ha hx;unfold zDd;dsimp only;rw [zAn,zW9 ha (by omega),zAn,zaz ha (by omega) hx (by omega),zAn];dsimp only;rw [zDo (by omega),za hk (by rw [List.length_append];omega),zAn,zNk]
  by_cases hs:((chB k (l.length+1) (zE4 l++itB (zUb l) x)).length:Int)>mo
  ·rw [if_pos hs,if_pos hs,zZp (by rw [List.length_append];omega),zAn,zAr (z:=((l.length+1:Nat):Int)-1) (by omega) (by omega),if_neg (by decide)]
   rw [show ((l.length+1:Nat):Int)-1=(l.length:Int) by omega]
  ·rw [if_neg hs,if_neg hs,if_pos rfl]
   unfold chS;rw [zNk,zRx,zLq,List.length_append];rfl
 ·rw [if_neg hp,if_pos (show pcE x.Point≠0 from hp),if_pos hp,if_neg hp]
end Go.Proofs.YthjhejgjcdajdaaGreatDoor
set_option maxRecDepth 20000
set_option linter.unusedVariables false
set_option linter.unusedSimpArgs false
namespace Go.Proofs.YthjhejgjcdajdaaGreatDoor
open Go Go.RowKit Go.Wk
def zRk (p:Pt):Bool:=decide (p.Name.length≤100)&&zRl p.Attrs&&decide (p.Hist.Pos.Counts.length≤300∧p.Hist.Neg.Counts.length≤300)
theorem zY (p:Pt):zDb p=some (zRk p):=zah p
theorem zU1 {p:Pt} (h:zRk p=true):Few p∧p.Hist.Pos.Counts.length≤300∧p.Hist.Neg.Counts.length≤300:=zVr h
theorem zTs {h:zA3} (e:zL h=true):h=h00:=by
 unfold zL at e;rw [decide_eq_true_iff] at e;obtain ⟨a,b,c,d,f,g⟩:=e
 match h,a,b,c,d,f,g with
 | ⟨_,_,⟨_,_⟩,⟨_,_⟩⟩,rfl,rfl,rfl,rfl,rfl,rfl=>rfl
theorem zVe {p:Pt} (h:pcE p=0):hcE p.Hist=0:=by
 have r:=zL5 h
 by_cases k:p.Kind=4
 ·exact r.h k
 ·have o:=r.o
  unfold zS9 at o;rw [decide_eq_true_iff] at o;rw [zTs (o.2.2.2.1 k)];exact zVy
theorem zXu (p:Pt) (mo:Int) (h1:p.Hist.Pos.Counts.length≤1000000) (h2:p.Hist.Neg.Counts.length≤1000000) :
 zJc p mo=some (if pcE p=0 then (some (chS (zK7 p) mo []),0) else (none,pcE p)):=by
 unfold zJc;rw [zZb _ h1 h2,zAn];unfold zd1
 by_cases hp:pcE p=0
 ·rw [if_pos hp,if_pos hp,if_neg (show ¬(0:Int)≠0 by decide)]
  unfold zHz zFd zFj zI8 zGg;rw [zAn];simp only [zAn]
  have e:(WrO (zE4 []))=⟨[],0⟩:=by unfold zE4;rw [zPh,WrO,zMn];rfl
  unfold chS;rw [e];rfl
 ·rw [if_neg hp,if_neg hp,if_pos (show pcE p≠0 from hp)]
theorem zVt {p:Pt} (h:pcE p=0):(zK7 p).length≤10000:=by
 have:=zQ9 (zL5 h).c;unfold zK7;simp only [List.length_append,List.length_cons,List.length_nil] at this ⊢;omega
theorem wf_ok {x:Int} (h:(Lit.int .i64 x).wf=true):okI x:=by
 unfold okI;simp [Lit.wf,IntKind.min,IntKind.max,IntKind.signed,IntKind.bits] at h
 omega
end Go.Proofs.YthjhejgjcdajdaaGreatDoor
set_option maxRecDepth 20000
set_option linter.unusedVariables false
set_option linter.unusedSimpArgs false
namespace Go.Proofs.YthjhejgjcdajdaaGreatDoor
open Go Go.RowKit Go.Wk
abbrev zRu (p:Pt):Pt:=⟨p.Name,srt p.Attrs,p.Kind,p.Temp,p.Mono,p.Start,p.Time,p.Int_,p.Re,p.Im,p.Hist,p.Flags⟩
abbrev zWl (p:Pt):Pt:=⟨p.Name,srt p.Attrs,p.Kind,p.Temp,p.Mono,0,0,0,0,0,h00,0⟩
theorem zMa {L k R:List Bool} {a:Nat} (h:L.drop a=k++R):L.drop (a+k.length)=R∧(k≠[]→a+k.length≤L.length):=by
 constructor
 ·rw [← List.drop_drop,h,List.drop_left]
 ·intro hk
  have e:=congrArg List.length h;have:0<k.length:=List.length_pos_iff.2 hk;simp only [List.length_drop,List.length_append] at e
  omega
theorem zMb {L k R:List Bool} {a:Nat} (h:L.drop a=k++R) (ha:a≤L.length):a+k.length≤L.length:=by
 have e:=congrArg List.length h;simp only [List.length_drop,List.length_append] at e
 omega
theorem zV6 {xs:List Int} (h:(zGr xs).n=0):(zGr xs).last=0:=by
 rw [zV7] at h;obtain rfl:xs=[]:=List.eq_nil_of_length_eq_zero (by omega)
 rfl
theorem zQt {xs:List Int} {v:Int} {L R:List Bool} {a:Nat} (hx:xs.length≤1000) (hv:okI v) (hL:L.length≤1000000000) (ha:a≤L.length) (h:L.drop a=zNp (zGr xs) v++R) :
 zC8 (RdO L a) 0 (zGr xs)=some (v,RdO L (a+(zNp (zGr xs) v).length),0,zGr (xs++[v])):=by
 have hn:=zV7 xs;unfold zC8;rw [if_neg (by decide),za5 ⟨by omega,by omega⟩ (by omega) ha,h,zY4 hv (by omega) zV6,zAn,if_pos rfl];unfold zHx;dsimp only;rw [zBm,if_pos rfl,zAn];dsimp only;rw [ofN,zT2 hv,zL4]
theorem zSj {A:List UInt64} {v:UInt64} {L R:List Bool} {a:Nat} (hA:A.length≤1000) (hL:L.length≤1000000000) (ha:a≤L.length) (h:L.drop a=flB A v++R) :
 zBr (RdO L a) 0 (xrA A)=some (v,RdO L (a+(flB A v).length),0,xrA (A++[v])):=by
 unfold zBr
 have hz:A.length=0→zO4 A=0:=fun e=>by rw [List.eq_nil_of_length_eq_zero e];rfl
 rw [if_neg (by decide),zZm (zLj A) hz (by omega) (by omega) ha,h,zVz (zLj A),zAn,if_pos rfl];unfold zGo;dsimp only;rw [zBm,if_pos rfl,zAn];dsimp only;unfold xrA;rw [zQ0,zPr,List.length_append];rfl
theorem zb {v:Nat} {L R:List Bool} {a:Nat} (ro:zAj) (hv:v<1000) (hL:L.length≤1000000000) (ha:a≤L.length) (h:L.drop a=smB v++R) :
 zE6 ⟨RdO L a,ro,0⟩=some (UInt64.ofNat v,⟨RdO L (a+(smB v).length),ro,0⟩):=by
 unfold zE6;dsimp only;rw [if_neg (by decide),zS0 (by omega) ha,h,zQl v (by omega),zAn];unfold zHw;dsimp only;rw [zBm,if_pos rfl,zAn];rfl
theorem zYe {n:Nat} {H:List zA3} {v:zA3} {L R:List Bool} {a:Nat} (hH:H.length≤n∧∀ x∈H,HOk x) (hn:n≤1000) (hv:hcE v=0) (hL:L.length≤1000000000) (ha:a≤L.length) (h:L.drop a=hB H.length (zO5 H) v++R) :
 zE2 (hrA H) (RdO L a)=some (v,0,hrA (H++[v]),RdO L (a+(hB H.length (zO5 H) v).length)):=by
 obtain ⟨b1,b2⟩:=zP3 hH;rw [zan hL (by omega) ha b1 b2,zap ha,h,zW hv];unfold zbi shG;dsimp only;rw [if_pos rfl,if_pos rfl];unfold hrA;rw [zQ1,List.length_append];rfl
theorem zXo {p:Pt} (h:pcE p=0):pcE (zRu p)=0:=by
 have hc:=(zL5 h).c;have hs:=zPc hc;unfold pcE at h ⊢;dsimp only;rw [if_neg (by omega)] at h ⊢;exact h
structure ItP (x:It):Prop where
 pc:pcE x.Point=0
 o:¬(x.Ord<0∨x.Ord>4503599627370496)
 i:okI x.Point.Int_
theorem ItP.r {x:It} (h:ItP x):ItR x:=zZc h.pc h.o h.i (zVe h.pc)
theorem zcc {p:Pt} (h:pcE p=0):(p.Kind≠1→p.Int_=0)∧(¬(p.Kind=2∨p.Kind=3∨p.Kind=5)→p.Re=0)∧(p.Kind≠5→p.Im=0)∧(p.Kind≠4→p.Hist=h00)∧0≤p.Flags∧p.Flags≤31:=by
 have o:=(zL5 h).o;unfold zS9 at o;rw [decide_eq_true_iff] at o;exact ⟨o.1,o.2.1,o.2.2.1,fun k=>zTs (o.2.2.2.1 k),o.2.2.2.2⟩
theorem zYw {p:Pt} (h:pcE p=0):0≤p.Start∧p.Time≤4503599627370496∧(if p.Kind=3 then p.Start=p.Time else p.Start<p.Time):=by
 have o:=(zL5 h).t;unfold zJn at o;rwa [decide_eq_true_iff] at o
theorem zTb (k:Int) (r:zA5) {b:Bool} (h:b=false):zAv b k r=some r:=by
 unfold zAv;rw [h,if_neg (by decide)]
theorem zMy {x:It} (hx:ItP x) {last:Int} (hl:last<x.Ord) (sp:Int) (hs:sp=if x.Point.Kind=3 then 0 else x.Point.Time-x.Point.Start) (r:zA0) (ro:zAj) (q:Pt) (hq:q.Name=x.Point.Name∧q.Attrs=srt x.Point.Attrs∧q.Kind=x.Point.Kind∧q.Temp=x.Point.Temp∧q.Mono=x.Point.Mono∧q.Int_=x.Point.Int_∧q.Re=x.Point.Re∧q.Im=x.Point.Im∧q.Hist=x.Point.Hist) :
 (zAv (decide ((x.Ord<0)∨(x.Ord>4503599627370496))) 1 ⟨r,ro,0⟩).bind (fun p63=>
  (zAv (decide (x.Ord≤last)) 9 p63).bind fun p68=>
  (zAv (decide ((x.Point.Time<0)∨(x.Point.Time>4503599627370496))) 1 p68).bind fun p75=>
  (zAv (decide ((q.Kind≠3)∧((sp<1)∨(sp>x.Point.Time)))) 1 p75).bind fun p84=>
  if p84.e≠0 then
  (some (({ Ord:=0,Point:=({ Name:=([]:List UInt8),Attrs:=([]:List zA),Kind:=0,Temp:=0,Mono:=false,Start:=0,Time:=0,Int_:=0,Re:=(0:UInt64),Im:=(0:UInt64),Hist:=({ Scale:=0,Zero:=(0:UInt64),Pos:=({ Offset:=0,Counts:=([]:List UInt64) }:zA9),Neg:=({ Offset:=0,Counts:=([]:List UInt64) }:zA9) }:zA3),Flags:=0 }:zA6) }:zAm),p84))
  else
  ((zDr ({ Name:=q.Name,Attrs:=q.Attrs,Kind:=q.Kind,Temp:=q.Temp,Mono:=q.Mono,Start:=W64 (x.Point.Time-sp),Time:=x.Point.Time,Int_:=q.Int_,Re:=q.Re,Im:=q.Im,Hist:=q.Hist,Flags:=W64 ((minU (UInt64.ofNat x.Point.Flags.toNat) (1048576:UInt64)).toNat:Int) }:zA6)).bind fun p134=>
   (zFv p84 0 p134).bind fun p136=>
   some (({ Ord:=x.Ord,Point:=({ Name:=q.Name,Attrs:=q.Attrs,Kind:=q.Kind,Temp:=q.Temp,Mono:=q.Mono,Start:=W64 (x.Point.Time-sp),Time:=x.Point.Time,Int_:=q.Int_,Re:=q.Re,Im:=q.Im,Hist:=q.Hist,Flags:=W64 ((minU (UInt64.ofNat x.Point.Flags.toNat) (1048576:UInt64)).toNat:Int) }:zA6) }:zAm),p136.2))) =
  some (⟨x.Ord,zRu x.Point⟩,⟨r,ro,0⟩):=by
 obtain ⟨q1,q2,q3,q4,q5,q6,q7,q8,q9⟩:=hq;rw [q1,q2,q3,q4,q5,q6,q7,q8,q9];obtain ⟨z1,z2,z3,z4,f0,f1⟩:=zcc hx.pc;obtain ⟨s0,t1,tk⟩:=zYw hx.pc;have ho:=hx.o;have hr:=hx.r;have hp:=(zP4 hr.h).p;have hn:=(zP4 hr.h).n
 have ht:x.Point.Start≤x.Point.Time:=by split at tk<;>omega
 have e1:W64 (x.Point.Time-sp)=x.Point.Start:=by
  by_cases k3:x.Point.Kind=3
  ·rw [if_pos k3] at hs tk;rw [zAr (by omega) (by omega)];omega
  ·rw [if_neg k3] at hs tk;rw [zAr (by omega) (by omega)];omega
 have e2:W64 (((minU (UInt64.ofNat x.Point.Flags.toNat) (1048576:UInt64)).toNat:Nat):Int)=x.Point.Flags:=by
  have hle:UInt64.ofNat x.Point.Flags.toNat≤(1048576:UInt64):=by
   rw [UInt64.le_iff_toNat_le,zBs (by omega),show (1048576:UInt64).toNat=1048576 from rfl];omega
  unfold minU;rw [if_pos hle,zBs (by omega),zAr (by omega) (by omega)];omega
 rw [zTb _ _ (decide_eq_false ho),zAn,zTb _ _ (decide_eq_false (by omega)),zAn,zTb _ _ (decide_eq_false (by omega)),zAn,zTb _ _ (decide_eq_false (by
  rintro ⟨h3,h4⟩
  rw [if_neg h3] at hs tk;omega)),zAn,if_neg (show ¬(0:Int)≠0 by decide),e1,e2,show (⟨x.Point.Name,srt x.Point.Attrs,x.Point.Kind,x.Point.Temp,x.Point.Mono,x.Point.Start,x.Point.Time,x.Point.Int_,x.Point.Re,x.Point.Im,x.Point.Hist,x.Point.Flags⟩:Pt)=zRu x.Point from rfl,zN1 (zRu x.Point) (show x.Point.Hist.Pos.Counts.length≤1000000 by omega) (show x.Point.Hist.Neg.Counts.length≤1000000 by omega),zXo hx.pc,zAn]
 unfold zFv;dsimp only;rw [zBm,if_pos rfl,zAn]
theorem zYa {n:Nat} {acc:Acc} {x:It} {L R:List Bool} {a:Nat} {last:Int} (ha:zWk n acc) (hn:n≤900) (hx:ItP x) (hL:L.length≤1000000000) (hal:a≤L.length) (hd:L.drop a=itB acc x++R) (hl:last<x.Ord) :
 zFp ⟨RdO L a,zMi acc,0⟩ (zWl x.Point) last=some (⟨x.Ord,zRu x.Point⟩,⟨RdO L (a+(itB acc x).length),zMi (zL0 acc x),0⟩):=by
 have hr:=hx.r;obtain ⟨z1,z2,z3,z4,f0,f1⟩:=zcc hx.pc;obtain ⟨s0,t1,tk⟩:=zYw hx.pc;have hk0:=hr.k0;have hk1:=hr.k1;unfold itB at hd ⊢;simp only [List.append_assoc] at hd;have d1:=zMa hd;have a1:=zMb hd hal;have d2:=zMa d1.1;have a2:=zMb d1.1 a1;have d3:=zMa d2.1;have a3:=zMb d2.1 a2;have d4:=zMa d3.1;have a4:=zMb d3.1 a3;have d5:=zMa d4.1;have a5:=zMb d4.1 a4;unfold zFp;dsimp only;rw [zQt (Nat.le_trans ha.o.1 (by omega)) hr.o hL hal hd,zAn];dsimp only;rw [zQt (Nat.le_trans ha.t.1 (by omega)) hr.t hL a1 d1.1,zAn,zBm];dsimp only;have tail:∀ (sp:Int) (ro:zA8) (b:Nat),sp=(if x.Point.Kind=3 then 0 else x.Point.Time-x.Point.Start)→ro=zGr (zL0 acc x).S→b≤L.length→L.drop b=smB x.Point.Flags.toNat++(zL2 acc x.Point++R) →
  ((zE6 ⟨RdO L b,⟨zGr (acc.O++[x.Ord]),zGr (acc.T++[x.Point.Time]),ro,zGr acc.I,xrA acc.A,xrA acc.B,hrA acc.H⟩,0⟩).bind fun p48=>
  jn (fun (y52:zA5) (y53:zA6)=>
   ((zAv (decide ((x.Ord<0)∨(x.Ord>4503599627370496))) 1 y52).bind fun p63=>
    (zAv (decide (x.Ord≤last)) 9 p63).bind fun p68=>
    (zAv (decide ((x.Point.Time<0)∨(x.Point.Time>4503599627370496))) 1 p68).bind fun p75=>
    (zAv (decide ((y53.Kind≠3)∧((sp<1)∨(sp>x.Point.Time)))) 1 p75).bind fun p84=>
    if p84.e≠0 then
    (some (({ Ord:=0,Point:=({ Name:=([]:List UInt8),Attrs:=([]:List zA),Kind:=0,Temp:=0,Mono:=false,Start:=0,Time:=0,Int_:=0,Re:=(0:UInt64),Im:=(0:UInt64),Hist:=({ Scale:=0,Zero:=(0:UInt64),Pos:=({ Offset:=0,Counts:=([]:List UInt64) }:zA9),Neg:=({ Offset:=0,Counts:=([]:List UInt64) }:zA9) }:zA3),Flags:=0 }:zA6) }:zAm),p84))
    else
    ((zDr ({ Name:=y53.Name,Attrs:=y53.Attrs,Kind:=y53.Kind,Temp:=y53.Temp,Mono:=y53.Mono,Start:=W64 (x.Point.Time-sp),Time:=x.Point.Time,Int_:=y53.Int_,Re:=y53.Re,Im:=y53.Im,Hist:=y53.Hist,Flags:=W64 ((minU p48.1 (1048576:UInt64)).toNat:Int) }:zA6)).bind fun p134=>
     (zFv p84 0 p134).bind fun p136=>
     some (({ Ord:=x.Ord,Point:=({ Name:=y53.Name,Attrs:=y53.Attrs,Kind:=y53.Kind,Temp:=y53.Temp,Mono:=y53.Mono,Start:=W64 (x.Point.Time-sp),Time:=x.Point.Time,Int_:=y53.Int_,Re:=y53.Re,Im:=y53.Im,Hist:=y53.Hist,Flags:=W64 ((minU p48.1 (1048576:UInt64)).toNat:Int) }:zA6) }:zAm),p136.2)))) fun j2=>
  if x.Point.Kind=1 then
  ((zC8 p48.2.r p48.2.e p48.2.rows.ints).bind fun p155=>
   j2 ({ r:=p155.2.1,rows:=({ ords:=p48.2.rows.ords,times:=p48.2.rows.times,spans:=p48.2.rows.spans,ints:=p155.2.2.2,re:=p48.2.rows.re,im:=p48.2.rows.im,hists:=p48.2.rows.hists }:zAj),e:=p155.2.2.1 }:zA5) ({ Name:=x.Point.Name,Attrs:=(srt x.Point.Attrs),Kind:=x.Point.Kind,Temp:=x.Point.Temp,Mono:=x.Point.Mono,Start:=0,Time:=0,Int_:=p155.1,Re:=(0:UInt64),Im:=(0:UInt64),Hist:=h00,Flags:=0 }:zA6))
  else
  (if x.Point.Kind=4 then
   (if p48.2.e=0 then
    (jn (fun (y187:zA3) (y189:Int) (y190:zA5)=>
     ((zFq y190 y187 y189).bind fun p195=>
      j2 p195.2 ({ Name:=x.Point.Name,Attrs:=(srt x.Point.Attrs),Kind:=x.Point.Kind,Temp:=x.Point.Temp,Mono:=x.Point.Mono,Start:=0,Time:=0,Int_:=0,Re:=(0:UInt64),Im:=(0:UInt64),Hist:=p195.1,Flags:=0 }:zA6))) fun j3=>
     (zE2 p48.2.rows.hists p48.2.r).bind fun p228=>
     j3 p228.1 p228.2.1 ({ r:=p228.2.2.2,rows:=({ ords:=p48.2.rows.ords,times:=p48.2.rows.times,spans:=p48.2.rows.spans,ints:=p48.2.rows.ints,re:=p48.2.rows.re,im:=p48.2.rows.im,hists:=p228.2.2.1 }:zAj),e:=p48.2.e }:zA5))
    else
    (j2 p48.2 (zWl x.Point)))
   else
   (if x.Point.Kind=5 then
    ((zBr p48.2.r p48.2.e p48.2.rows.re).bind fun p297=>
     (zBr p297.2.1 p297.2.2.1 p48.2.rows.im).bind fun p308=>
     j2 ({ r:=p308.2.1,rows:=({ ords:=p48.2.rows.ords,times:=p48.2.rows.times,spans:=p48.2.rows.spans,ints:=p48.2.rows.ints,re:=p297.2.2.2,im:=p308.2.2.2,hists:=p48.2.rows.hists }:zAj),e:=p308.2.2.1 }:zA5) ({ Name:=x.Point.Name,Attrs:=(srt x.Point.Attrs),Kind:=x.Point.Kind,Temp:=x.Point.Temp,Mono:=x.Point.Mono,Start:=0,Time:=0,Int_:=0,Re:=p297.1,Im:=p308.1,Hist:=h00,Flags:=0 }:zA6))
    else
    ((zBr p48.2.r p48.2.e p48.2.rows.re).bind fun p345=>
     j2 ({ r:=p345.2.1,rows:=({ ords:=p48.2.rows.ords,times:=p48.2.rows.times,spans:=p48.2.rows.spans,ints:=p48.2.rows.ints,re:=p345.2.2.2,im:=p48.2.rows.im,hists:=p48.2.rows.hists }:zAj),e:=p345.2.2.1 }:zA5) ({ Name:=x.Point.Name,Attrs:=(srt x.Point.Attrs),Kind:=x.Point.Kind,Temp:=x.Point.Temp,Mono:=x.Point.Mono,Start:=0,Time:=0,Int_:=0,Re:=p345.1,Im:=(0:UInt64),Hist:=h00,Flags:=0 }:zA6)))))=some (⟨x.Ord,zRu x.Point⟩,⟨RdO L (b+(smB x.Point.Flags.toNat++zL2 acc x.Point).length),zMi (zL0 acc x),0⟩):=by
  intro sp ro b hsp hro hb hdb;have e1:=zMa hdb;have b1:=zMb hdb hb;rw [zb _ (by omega) hL hb hdb,zAn,zBm];dsimp only
  by_cases k1:x.Point.Kind=1
  ·have v1:zL2 acc x.Point=zNp (zGr acc.I) x.Point.Int_:=by unfold zL2;rw [if_pos k1]
   rw [v1] at e1 ⊢;rw [if_pos k1,zQt (Nat.le_trans ha.i.1 (by omega)) hr.i hL b1 e1.1,zAn];dsimp only;refine (zMy hx hl sp hsp _ _ ⟨x.Point.Name,srt x.Point.Attrs,x.Point.Kind,x.Point.Temp,x.Point.Mono,0,0,x.Point.Int_,0,0,h00,0⟩ ⟨rfl,rfl,rfl,rfl,rfl,rfl,(z2 (by omega)).symm,(z3 (by omega)).symm,(z4 (by omega)).symm⟩).trans ?_;unfold zMi;rw [hro];unfold zL0;dsimp only;rw [if_pos k1,if_pos (Or.inl k1),if_neg (show ¬x.Point.Kind=5 by omega),if_neg (show ¬x.Point.Kind=4 by omega),List.length_append,Nat.add_assoc]
  by_cases k4:x.Point.Kind=4
  ·have v1:zL2 acc x.Point=hB acc.H.length (zO5 acc.H) x.Point.Hist:=by unfold zL2;rw [if_neg k1,if_pos k4]
   rw [v1] at e1 ⊢;rw [if_neg k1,if_pos k4,if_pos rfl,zBm,zYe ha.h (by omega) hr.h hL b1 e1.1,zAn];dsimp only;unfold zFq;dsimp only;rw [zBm,if_pos rfl,zAn];dsimp only;refine (zMy hx hl sp hsp _ _ ⟨x.Point.Name,srt x.Point.Attrs,x.Point.Kind,x.Point.Temp,x.Point.Mono,0,0,0,0,0,x.Point.Hist,0⟩ ⟨rfl,rfl,rfl,rfl,rfl,(z1 (by omega)).symm,(z2 (by omega)).symm,(z3 (by omega)).symm,rfl⟩).trans ?_;unfold zMi;rw [hro];unfold zL0;dsimp only;rw [if_neg k1,if_pos (Or.inr k4),if_neg (show ¬x.Point.Kind=5 by omega),if_pos k4,List.length_append,Nat.add_assoc]
  by_cases k5:x.Point.Kind=5
  ·have v1:zL2 acc x.Point=flB acc.A x.Point.Re++flB acc.B x.Point.Im:=by unfold zL2;rw [if_neg k1,if_neg k4,if_pos k5]
   rw [v1,List.append_assoc] at e1;rw [v1];have e2:=zMa e1.1;have b2:=zMb e1.1 b1;rw [if_neg k1,if_neg k4,if_pos k5,zSj (Nat.le_trans ha.re (by omega)) hL b1 e1.1,zAn];dsimp only;rw [zSj (Nat.le_trans ha.im (by omega)) hL b2 e2.1,zAn];dsimp only;refine (zMy hx hl sp hsp _ _ ⟨x.Point.Name,srt x.Point.Attrs,x.Point.Kind,x.Point.Temp,x.Point.Mono,0,0,0,x.Point.Re,x.Point.Im,h00,0⟩ ⟨rfl,rfl,rfl,rfl,rfl,(z1 (by omega)).symm,rfl,rfl,(z4 (by omega)).symm⟩).trans ?_;unfold zMi;rw [hro];unfold zL0;dsimp only;rw [if_neg k1,if_neg (show ¬(x.Point.Kind=1∨x.Point.Kind=4) by omega),if_pos k5,if_neg k4,List.length_append,List.length_append,← Nat.add_assoc,← Nat.add_assoc]
  ·have v1:zL2 acc x.Point=flB acc.A x.Point.Re:=by unfold zL2;rw [if_neg k1,if_neg k4,if_neg k5]
   rw [v1] at e1 ⊢;rw [if_neg k1,if_neg k4,if_neg k5,zSj (Nat.le_trans ha.re (by omega)) hL b1 e1.1,zAn];dsimp only;refine (zMy hx hl sp hsp _ _ ⟨x.Point.Name,srt x.Point.Attrs,x.Point.Kind,x.Point.Temp,x.Point.Mono,0,0,0,x.Point.Re,0,h00,0⟩ ⟨rfl,rfl,rfl,rfl,rfl,(z1 (by omega)).symm,rfl,(z3 (by omega)).symm,(z4 (by omega)).symm⟩).trans ?_;unfold zMi;rw [hro];unfold zL0;dsimp only;rw [if_neg k1,if_neg (show ¬(x.Point.Kind=1∨x.Point.Kind=4) by omega),if_neg k5,if_neg k4,List.length_append,Nat.add_assoc]
 have hlen:∀ b:Nat,a+(zNp (zGr acc.O) x.Ord++(zNp (zGr acc.T) x.Point.Time++(zUt acc x.Point++(smB x.Point.Flags.toNat++zL2 acc x.Point)))).length=b+(smB x.Point.Flags.toNat++zL2 acc x.Point).length↔a+(zNp (zGr acc.O) x.Ord).length+(zNp (zGr acc.T) x.Point.Time).length+(zUt acc x.Point).length=b:=by
  intro b;simp only [List.length_append];omega
 by_cases k3:x.Point.Kind=3
 ·have s3:zUt acc x.Point=[]:=by unfold zUt;rw [if_pos k3]
  rw [if_neg (show ¬x.Point.Kind≠3 by omega)];rw [s3] at d2;refine (tail 0 (zGr acc.S) _ (by rw [if_pos k3]) (by unfold zL0;dsimp only;rw [if_pos k3]) a2 d2.1).trans ?_;rw [(hlen (a+(zNp (zGr acc.O) x.Ord).length+(zNp (zGr acc.T) x.Point.Time).length)).2 (by rw [s3];rfl)]
 ·have s3:zUt acc x.Point=zNp (zGr acc.S) (spn x.Point):=by unfold zUt;rw [if_neg k3]
  have es:spn x.Point=x.Point.Time-x.Point.Start:=by
   rw [if_neg k3] at tk;unfold spn;rw [zAr (by omega) (by omega)]
  rw [s3] at d2 d3 a3;rw [if_pos k3,zQt (Nat.le_trans ha.s.1 (by omega)) (zad _) hL a2 d2.1,zAn];dsimp only;refine (tail (spn x.Point) (zGr (acc.S++[spn x.Point])) _ (by rw [if_neg k3,es]) (by unfold zL0;dsimp only;rw [if_neg k3]) a3 d3.1).trans ?_;rw [(hlen (a+(zNp (zGr acc.O) x.Ord).length+(zNp (zGr acc.T) x.Point.Time).length+(zNp (zGr acc.S) (spn x.Point)).length)).2 (by rw [s3])]
end Go.Proofs.YthjhejgjcdajdaaGreatDoor
set_option maxRecDepth 20000
set_option linter.unusedVariables false
set_option linter.unusedSimpArgs false
namespace Go.Proofs.YthjhejgjcdajdaaGreatDoor
open Go Go.RowKit Go.Wk
theorem zXc (p q:List It):∀ a:Acc,zPh a (p++q)=zPh a p++zPh (p.foldl zL0 a) q:=by
 induction p with
 | nil=>intro a;rw [List.nil_append,zPh,List.nil_append,List.foldl_nil]
 | cons x t ih=>intro a;rw [List.cons_append,zPh,ih,zPh,List.append_assoc,List.foldl_cons]
abbrev zRv (x:It):It:=⟨x.Ord,zRu x.Point⟩
theorem zVs (M:List Bool):∀ (B:List Bool),B.length<8→((shl8 (zI0 B) B.length).toNat:Int)=0:=by
 intro B hB;rw [zSy,zK9 (by omega),Nat.mul_assoc,← Nat.pow_add,show 8-B.length+B.length=8 by omega]
 omega
theorem zaf {M:List Bool} (hM:M.length≤8000000000):zGh (zD9 M) (M.length:Int)=some (some (RdO M 0),0):=by
 have hp:=zEj M;unfold zGh;simp only [zBm];rw [if_neg (by omega),show (8:Int)=((8:Nat):Int) from rfl,zLm (by decide) (by omega),zAn,if_neg (by omega),zAn,zMj (by decide),zAn,zAr (z:=(M.length:Int)+7) (by omega) (by omega),show (M.length:Int)+7=((M.length+7:Nat):Int) by omega,zLm (by decide) (by omega),zAn,if_neg (show ¬((zD9 M).length:Int)>(((M.length+7)/8:Nat):Int) by omega),zAn]
 have tail:(zDs (zD9 M)).bind (fun p22=>some ((some ({ b:=p22,n:=(M.length:Int),at_:=0 }:zA0)),(0:Int)))=some (some (RdO M 0),0):=by
  rw [zOi _ (by omega),zAn];rfl
 by_cases h0:M.length%8=0
 ·have e1:(if ((zD9 M).length:Int)=((M.length/8:Nat):Int) then decide (((M.length%8:Nat):Int)>0) else false)=false:=by
   split
   ·rw [decide_eq_false (by omega)]
   ·rfl
  rw [if_neg (show ¬((M.length%8:Nat):Int)>0 by omega)]
  by_cases h1:((zD9 M).length:Int)=((M.length/8:Nat):Int)
  ·rw [if_pos h1,decide_eq_false (show ¬((M.length%8:Nat):Int)>0 by omega),if_neg (show ¬false=true by decide),if_neg (show ¬false=true by decide)];exact tail
  ·rw [if_neg h1,if_neg (show ¬false=true by decide),if_neg (show ¬false=true by decide)];exact tail
 ·obtain ⟨q,A,B,hAB,hA,hB,hBl,hq⟩:=cut8 M
  have hne:B≠[]:=by intro h;rw [h] at hBl;exact h0 hBl.symm
  have hpa:(zD9 A).length=q:=by rw [zEj,hA];omega
  have hi:idx (zD9 M) ((M.length/8:Nat):Int)=some (zI0 B):=by
   rw [hAB,zL6 q A B hA,zKd hne (by omega),← hAB,← hq,← hpa];exact zGp _ _ _
  rw [if_neg (show ¬((zD9 M).length:Int)=((M.length/8:Nat):Int) by omega),if_neg (show ¬false=true by decide),if_pos (show ((M.length%8:Nat):Int)>0 by omega),zAn,hi,zAn,zAn,zCl (by omega),← hBl,zVs M B hB,decide_eq_false (by decide),if_neg (show ¬false=true by decide)];exact tail
theorem zX9 {a b:Pt} (ha:pcE a=0) (hb:pcE b=0) (h:zK7 a=zK7 b):zWl a=zWl b:=by
 obtain ⟨h1,h2,h3,h4,h5⟩:=(zal (zL5 ha) (zL5 hb)).1 h;unfold zWl;rw [h1,h2,h3,h4,h5]
structure zWr (p0:Pt) (l:List It):Prop where
 pz:pcE p0=0
 az:p0.Attrs.length≤20
 n:l.length≤128
 ok:∀ x∈l,ItP x∧zK7 x.Point=zK7 p0
 inc:∀ q x r,q++x::r=l→zNe q<x.Ord
theorem zY9 {p0:Pt} {l:List It} (h:zWr p0 l):zIf (chB (zK7 p0) l.length (zE4 l))=some (l.map zRv,0):=by
 have okR:∀ x∈l,ItR x:=fun x hx=>(h.ok x hx).1.r
 have hM:=zOj okR;have hn:=h.n
 have hk:(zK7 p0).length≤420:=by
  have:=zQ9 (zL5 h.pz).c;unfold zK7;simp only [List.length_append,List.length_cons,List.length_nil] at this ⊢;omega
 have hpl:=zEj (zE4 l);generalize hkk:zK7 p0=k at *
 have hb:(chB k l.length (zE4 l)).length≤10000000:=by
  have:=zTm l.length (zE4 l) (k:=k) (by omega);unfold chB;rw [List.length_append];omega
 have b0:chB k l.length (zE4 l)=[]++(zQq k++(enc (UInt64.ofNat l.length)++(enc (UInt64.ofNat (zE4 l).length)++zD9 (zE4 l)))):=by unfold chB hdB;simp
 have b1:chB k l.length (zE4 l)=zQq k++(enc (UInt64.ofNat l.length)++(enc (UInt64.ofNat (zE4 l).length)++zD9 (zE4 l))):=by unfold chB hdB;simp
 have b2:chB k l.length (zE4 l)=(zQq k++enc (UInt64.ofNat l.length))++(enc (UInt64.ofNat (zE4 l).length)++zD9 (zE4 l)):=by unfold chB hdB;simp
 have b3:chB k l.length (zE4 l)=hdB k l.length (zE4 l)++(zD9 (zE4 l)++[]):=by unfold chB;simp
 have b4:(hdB k l.length (zE4 l)++zD9 (zE4 l)).length=(chB k l.length (zE4 l)).length:=rfl;generalize chB k l.length (zE4 l)=B at *;have hc:zH8 (zWl p0)=some (zWl p0):=zYb _ ⟨by show (srt p0.Attrs).length≤20;rw [zM3];exact h.az,by simp,by simp⟩;unfold zIf;rw [zcg _ (by omega),zAn,show zEy ⟨B,0,0⟩ 420=_ from zXd [] k _ 420 b0 rfl (by omega) (by omega) (by omega),zAn];dsimp only;rw [List.nil_append,show zCp ⟨B,((zQq k).length:Nat),0⟩ 128=_ from zOr (zQq k) _ l.length 128 b1 rfl (by omega) hn (by omega),zAn];dsimp only;rw [show zCp ⟨B,((zQq k++enc (UInt64.ofNat l.length)).length:Nat),0⟩ 16777216=_ from zOr (zQq k++enc (UInt64.ofNat l.length)) _ (zE4 l).length 16777216 b2 rfl (by omega) (by omega) (by omega),zAn];dsimp only
 have ez:quoZ (W64 (((zE4 l).length:Int)+7)) 8=some ((zD9 (zE4 l)).length:Int):=by
  rw [zAr (by omega) (by omega),show ((zE4 l).length:Int)+7=(((zE4 l).length+7:Nat):Int) by omega,show (8:Int)=((8:Nat):Int) from rfl,zLm (by decide) (by omega),hpl]
 rw [ez,zAn,show zQq k++enc (UInt64.ofNat l.length)++enc (UInt64.ofNat (zE4 l).length)=hdB k l.length (zE4 l) from rfl,zZ5 (hdB k l.length (zE4 l)) (zD9 (zE4 l)) [] b3 rfl (by omega),zAn];dsimp only;rw [b4,zav _ (by omega),zAn,if_neg (show ¬(0:Int)≠0 by decide),zUy k (by omega),zAn,← hkk,zX8 h.pz];dsimp only;rw [if_neg (show ¬(0:Int)≠0 by decide),zaf (by omega),zAn];dsimp only;rw [if_neg (show ¬(0:Int)≠0 by decide)]
 have enr:zFd=some (zMi zbf):=by unfold zFd zFj zI8 zGg;rfl
 rw [enr,zAn,zAn,zBm];obtain ⟨f,hf⟩:=zM9 200 (by omega);have key:∀ (r q:List It) (f:Nat),q++r=l→r.length<f→∀ (p14:Int×zAa) (p33:Pt×Int) (j:List It→zA5→Option (List It×Int)),p14.1=(l.length:Int)→p33.1=zWl p0 →
  zDx p14 p33 j f (q.map zRv) (zNe q) ((q.length:Nat):Int) ⟨RdO (zE4 l) (zE4 q).length,zMi (zUb q),0⟩=j (l.map zRv) ⟨RdO (zE4 l) (zE4 l).length,zMi (zUb l),0⟩:=by
  intro r
  induction r with
  | nil=>
   intro q f hq hf p14 p33 j h1 h2;obtain ⟨f,rfl⟩:∃ m,f=m+1:=⟨f-1,by omega⟩;rw [List.append_nil] at hq;subst hq;rw [zDx,if_neg (by omega)]
  | cons x r ih=>
   intro q f hq hf p14 p33 j h1 h2;obtain ⟨f,rfl⟩:∃ m,f=m+1:=⟨f-1,by omega⟩;have hql:=congrArg List.length hq;simp only [List.length_append,List.length_cons] at hql hf
   have hxl:x∈l:=by rw [← hq];simp
   obtain ⟨hx,hxk⟩:=h.ok x hxl
   have okq:∀ y∈q,ItR y:=fun y hy=>okR y (by rw [← hq];simp [hy])
   have hq2:(q++[x])++r=l:=by rw [List.append_assoc];exact hq
   have hbits:zE4 l=zE4 q++(itB (zUb q) x++zPh (zL0 (zUb q) x) r):=by
    rw [← hq];unfold zE4;rw [zXc,zPh];rfl
   have hd:(zE4 l).drop (zE4 q).length=itB (zUb q) x++zPh (zL0 (zUb q) x) r:=by rw [hbits,List.drop_left]
   have hal:(zE4 q).length≤(zE4 l).length:=by rw [hbits,List.length_append];omega
   have hs:zWl x.Point=zWl p0:=zX9 hx.pc h.pz (by rw [hxk,hkk]);have hnx:=zYa (last:=zNe q) (zWh okq) (by omega) hx (by omega) hal hd (h.inc q x r hq);rw [hs] at hnx;rw [zDx,if_pos (by omega),h2,hc,zAn,hnx,zAn];dsimp only;rw [if_neg (show ¬(0:Int)≠0 by decide),app1 (by simp;omega),zAn,zDo (by omega)];have:=ih (q++[x]) f hq2 (by omega) p14 p33 j h1 h2;rw [List.map_append,zLq,List.length_append,zNk,List.length_append,zRx] at this;exact this
 refine (key l [] fuel rfl (by rw [hf];omega) _ _ _ rfl rfl).trans ?_;unfold zBy;dsimp only;rw [zAr (by omega) (by omega),zAn,if_neg (by omega)]
end Go.Proofs.YthjhejgjcdajdaaGreatDoor
set_option maxRecDepth 20000
set_option linter.unusedVariables false
set_option linter.unusedSimpArgs false
namespace Go.Proofs.YthjhejgjcdajdaaGreatDoor
open Go Go.RowKit Go.Wk
theorem zWr.nil {p:Pt} (h:pcE p=0) (ha:p.Attrs.length≤20):zWr p []:=⟨h,ha,by simp,by simp,fun q x r e=>by simp at e⟩
theorem zWr.snoc {p:Pt} {l:List It} {x:It} (h:zWr p l) (hn:l.length<128) (hx:ItP x) (hk:zK7 x.Point=zK7 p) (hl:zNe l<x.Ord):zWr p (l++[x]):=by
 refine ⟨h.pz,h.az,by simp;omega,fun y hy=>(List.mem_append.1 hy).elim (h.ok y) (fun e=>by rw [List.mem_singleton.1 e];exact ⟨hx,hk⟩),?_⟩;intro q y r e
 by_cases hr:r=[]
 ·subst hr
  obtain ⟨e1,e2⟩:=List.append_inj' e rfl
  rw [e1];injection e2 with e3;rw [e3];exact hl
 ·obtain ⟨t,z,rfl⟩:∃ t z,r=t++[z]:=⟨r.dropLast,r.getLast hr,(List.dropLast_concat_getLast hr).symm⟩
  have e':(q++y::t)++[z]=l++[x]:=by rw [← e];simp
  exact h.inc q y t (List.append_inj' e' rfl).1
theorem zYq {p:Pt} {l:List It} {x:It} (h:zWr p l) (hn:l.length<128) (hx:ItP x) (hk:zK7 x.Point=zK7 p) (hl:zNe l<x.Ord):zbe (zK7 p) l 4611686018427387904 x=0:=by
 have hs:=h.snoc hn hx hk hl;have hb:=zOj (fun y hy=>(hs.ok y hy).1.r);have hp:=zEj (zE4 (l++[x]));have hkl:=zVt h.pz;have hh:=zTm (l.length+1) (zE4 (l++[x])) (k:=zK7 p) (by omega)
 have hsz:(chB (zK7 p) (l.length+1) (zE4 (l++[x]))).length≤100000000:=by
  unfold chB;rw [List.length_append];rw [List.length_append] at hb;simp only [List.length_cons,List.length_nil] at hb;omega
 unfold zbe;rw [if_neg (show ¬pcE x.Point≠0 from fun k=>k hx.pc),if_neg (show ¬zK7 x.Point≠zK7 p from fun k=>k hk),if_neg hx.o,if_neg (by omega),if_neg (by omega),if_neg (by omega)]
theorem zXv (p:Pt) (more:Int) {a b c d e f g h:Prop} (k0:a∧b∧c∧d∧e∧f∧g∧(Lit.int .i64 p.Int_).wf=true∧h) {P1:Prop} (_:P1):zEk p more=some true:=by
 have hi:okI p.Int_:=wf_ok k0.2.2.2.2.2.2.2.1;clear k0;unfold zEk;rw [zYj,zAn,if_neg (by decide),zY,zAn]
 by_cases hc:((((((!zRk p)=true)∨((p.Hist.Pos.Counts.length:Int)>20))∨((p.Hist.Neg.Counts.length:Int)>20))∨(more<0))∨(more>3))
 ·rw [if_pos hc]
 rw [if_neg hc]
 have hlt:zRk p=true:=by
  cases hb:zRk p with
  | true=>rfl
  | false=>exact (hc (by rw [hb];exact Or.inl (Or.inl (Or.inl (Or.inl rfl))))).elim
 obtain ⟨hf,hp1,hp2⟩:=zU1 hlt;rw [zXu _ _ (by omega) (by omega),zAn]
 by_cases hp:pcE p=0
 ·rw [if_pos hp]
  dsimp only;rw [if_neg (by simp),zBm];obtain ⟨fu,hfu⟩:=zM9 200 (by omega)
  have itp:∀ o:Int,0≤o→o≤1000→ItP ⟨o,p⟩:=fun o h0 h1=>⟨hp,by dsimp only;omega,hi⟩
  have hkl:=zVt hp;have key:∀ (r i:Nat) (f:Nat) (l:List It) (j:Option zAc→Option Bool),i+r=128→r<f→zWr p l→l.length=i→(i=0∧l=[]∨0<i∧zNe l=2*(i:Int)-2∧∃ t,l=t++[⟨2*(i:Int)-2,p⟩]) →
   ∃ l' t,zWr p l'∧l'.length=128∧l'=t++[⟨254,p⟩]∧zBd p j f (i:Int) (some (chS (zK7 p) 4611686018427387904 l))=j (some (chS (zK7 p) 4611686018427387904 l')):=by
   intro r
   induction r with
   | zero=>
    intro i f l j hir hf hl hli hla;obtain ⟨f,rfl⟩:∃ m,f=m+1:=⟨f-1,by omega⟩
    rcases hla with ⟨h0,_⟩|⟨_,_,t,ht⟩
    ·omega
    ·refine ⟨l,t,hl,by omega,by rw [ht,show (2*(i:Int)-2)=254 by omega],?_⟩
     rw [zBd,if_neg (by omega)]
   | succ r ih=>
    intro i f l j hir hf hl hli hla;obtain ⟨f,rfl⟩:∃ m,f=m+1:=⟨f-1,by omega⟩
    have hlo:zNe l<2*(i:Int):=by
     rcases hla with ⟨h0,e⟩|⟨_,e,_⟩
     ·rw [e];show (-1:Int)<_;omega
     ·omega
    have hx:=itp (2*(i:Int)) (by omega) (by omega);have hfit:=zYq hl (by omega) hx rfl hlo;have hn:=hl.snoc (by omega) hx rfl hlo;rw [zBd,if_pos (by omega),zAn,zAr (z:=2*(i:Int)) (by omega) (by omega)];have hadd:=zWb (k:=zK7 p) (l:=l) (x:=⟨2*(i:Int),p⟩) 4611686018427387904 (by omega) (by omega) (fun y hy=>(hl.ok y hy).1.r) hi zVe (by dsimp only;omega) (by dsimp only;omega);rw [hfit,if_pos rfl] at hadd;rw [hadd,zAn];dsimp only;rw [if_neg (show ¬(0:Int)≠0 by decide),zDo (by omega)];exact ih (i+1) f (l++[⟨2*(i:Int),p⟩]) j (by omega) (by omega) hn (by simp;omega) (Or.inr ⟨by omega,by rw [zLq];dsimp only;omega,l,by rw [show 2*((i+1:Nat):Int)-2=2*(i:Int) by omega]⟩)
  obtain ⟨l',t,hl',hn',ht,e⟩:=key 128 0 fuel [] _ rfl (by rw [hfu];omega) (zWr.nil hp hf.a) rfl (Or.inl ⟨rfl,rfl⟩);refine e.trans ?_;clear e key;rw [zBm]
  have hla:zNe l'=254:=by rw [ht,zLq]
  have hfull:∀ o:Int,254<o→o≤1000→zDn (chS (zK7 p) 4611686018427387904 l') o p=some (6,chS (zK7 p) 4611686018427387904 l'):=by
   intro o h0 h1;have hx:=itp o (by omega) h1
   have ea:zbe (zK7 p) l' 4611686018427387904 ⟨o,p⟩=6:=by
    unfold zbe;rw [if_neg (show ¬pcE p≠0 from fun k=>k hp),if_neg (show ¬zK7 p≠zK7 p from fun k=>k rfl),if_neg hx.o,hla,if_neg (by dsimp only;omega),if_pos hn']
   have hadd:=zWb (k:=zK7 p) (l:=l') (x:=⟨o,p⟩) 4611686018427387904 (by omega) (by omega) (fun y hy=>(hl'.ok y hy).1.r) hi zVe (by dsimp only;omega) (by dsimp only;omega);rw [ea,if_neg (by decide)] at hadd;exact hadd
  have key1:∀ (r:Nat) (i:Int) (f:Nat) (j:Option zAc→Option Bool),0≤i→i≤4→(more-i).toNat=r→r<f →
   zBe p more j f i (some (chS (zK7 p) 4611686018427387904 l'))=j (some (chS (zK7 p) 4611686018427387904 l')):=by
   intro r
   induction r with
   | zero=>
    intro i f j h0 h1 hr hf;obtain ⟨f,rfl⟩:∃ m,f=m+1:=⟨f-1,by omega⟩;rw [zBe,if_neg (by omega)]
   | succ r ih=>
    intro i f j h0 h1 hr hf;obtain ⟨f,rfl⟩:∃ m,f=m+1:=⟨f-1,by omega⟩;rw [zBe,if_pos (by omega),zAn,zAr (z:=300+i) (by omega) (by omega),hfull _ (by omega) (by omega),zAn];dsimp only;rw [if_neg (show ¬(6:Int)≠6 by decide),zAr (z:=i+1) (by omega) (by omega)];exact ih (i+1) f j (by omega) (by omega) (by omega) (by omega)
  refine (key1 more.toNat 0 fuel _ (by omega) (by omega) (by rw [Int.sub_zero]) (by rw [hfu];omega)).trans ?_;have hb:=zOj (fun y hy=>(hl'.ok y hy).1.r)
  have hlen:(l'.map zRv).length=128:=by rw [List.length_map,hn']
  have hix:idx (l'.map zRv) 127=some (zRv ⟨254,p⟩):=by
   have htl:(t.map zRv).length=127:=by
    rw [ht] at hn';simp at hn';rw [List.length_map];exact hn'
   rw [ht,List.map_append,show (127:Int)=((t.map zRv).length:Int) by omega];exact zGp _ _ _
  rw [zAn,zWa (by omega) (by omega),zAn,zY9 hl',zAn];dsimp only;unfold zHy zHd;dsimp only;rw [if_pos rfl,if_pos (by omega),zAn,if_pos (by omega),zAn,if_pos hla,hix,zAn];dsimp only;rw [zXj (show Few (zRu p) from ⟨by show (srt p.Attrs).length≤20;rw [zM3];exact hf.a,hf.p,hf.n⟩) hf,zAn,decide_eq_true];exact ⟨rfl,zZy _,rfl,rfl,rfl,rfl,rfl,rfl,rfl,rfl,rfl,rfl⟩
 ·rw [if_neg hp]
  dsimp only;rw [if_pos (show (none:Option zAc).isNone=true from rfl),zWi p (by omega) (by omega),zAn,decide_eq_true hp]
end Go.Proofs.YthjhejgjcdajdaaGreatDoor
