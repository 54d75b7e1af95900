import Derived.Test.YthjhejgjcdajdaaGreatDoorNE
import Derived.Sort.Walk0
import Derived.Test.YthjhejgjcdajdaaGreatDoorPE1
import Derived.Test.YthjhejgjcdajdaaGreatDoorVE2
set_option linter.unusedVariables false
set_option linter.unusedSimpArgs false
namespace Go.Proofs.YthjhejgjcdajdaaGreatDoor
open Go Go.RowKit Go.Wk
abbrev Txt:=List UInt8
abbrev Pr:=zA0
def zUl (c:UInt8):Bool:=decide (97≤c.toNat)&&decide (c.toNat≤122)
def nmC (c:UInt8):Bool:=zUl c||(decide (48≤c.toNat)&&decide (c.toNat≤57))||decide (c.toNat=95)||decide (c.toNat=46)
def zJz (s:Txt):Bool:=decide (s.length≤32)&&match s with | []=>false | c::t=>zUl c&&t.all nmC
def zfz (c:UInt8):Bool:=decide (33≤c.toNat)&&decide (c.toNat≤126)&&decide (c.toNat≠61)&&decide (c.toNat≠59)&&decide (c.toNat≠44)
def zSr (s:Txt):Bool:=decide (s.length≤32)&&decide (1≤s.length)&&s.all zfz
theorem zWh (c:UInt8):zIf c=some (zUl c):=by unfold zIf zUl;rw [← Bool.decide_and];congr 1;apply decide_eq_decide.2;omega
theorem zPz (s:Txt):zG2 s=some (zJz s):=by
 unfold zG2;simp only [zB2]
 split
 ·rename_i h;rcases h with rfl | h<;>simp [zJz];omega
 ·rename_i h
  match s,h with
  | c::t,h=>
   simp only [not_or] at h;have hb:=h.2;rw [idx0,zAh,zWh,zAh,zTw (by omega),zAh,zO5 _ _ (by omega),zN nmC (some false)]
   ·have:(c::t).length≤32:=by omega
    have hn:zUl c=true→nmC c=true:=λh=>by simp [nmC,h]
    unfold zJz
    cases hc:zUl c<;>simp_all
    split<;>simp_all
   ·intro i x k _
    rw [zAh,zWh,zAh]
    refine zZk ?_ (λ_=>rfl) λ_=>rfl
    simp [nmC];grind
theorem zTb (s:Txt):zH9 s=some (zSr s):=by
 unfold zH9;simp only [zB2]
 split
 ·rename_i h;rcases h with rfl | h<;>simp [zSr];omega
 ·rename_i h
  simp only [not_or] at h;have hb:=h.2;have:=List.length_pos_iff.2 h.1;rw [zTw (by omega),zAh,zNn _ _ (by omega),zN zfz (some false)]
  ·unfold zSr;split<;>simp_all<;>omega
  ·intro i x k _
   simp only [zAh,zB2,zfz]
   grind
theorem zT6 (s:Txt):zDo s=some (zJz s):=by
 unfold zDo;simp only [zB2]
 split
 ·rename_i h
  match s with
  | []=>rfl
  | c::t=>unfold zJz;simp at h ⊢;grind
 ·rename_i h
  rw [zKn _ _ (by omega)]
  match s with
  | []=>simp at h
  | c::t=>
   unfold zIo;simp only [zRs,zAh];rw [zWm nmC (some false)]
   ·unfold zJz zUl;simp at h ⊢;grind
   ·intro i x k hi _
    refine zZk ?_ (λ_=>rfl) λ_=>rfl
    simp [nmC,zUl];omega
theorem zVk (s:Txt):zE9 s=some (zSr s):=by
 unfold zE9;simp only [zB2]
 split
 ·rename_i h;unfold zSr;simp;omega
 ·rename_i h
  rw [zK4 _ _ (by omega),zN zfz (some false)]
  ·unfold zSr;split<;>simp_all<;>omega
  ·intro i x k _
   simp only [zAh,zfz]
   grind
def chk:List Pr→List Pr→Int
 | _,[]=>0
 | p,a::l=>if (zJz a.Key&&zSr a.Val)=true then (if p.any (λb=>decide (b.Key=a.Key))=true then 8 else chk (p++[a]) l) else 3
def zL3 (name:Txt) (l:List Pr):Int:=if zJz name=true then (if l.length>4 then 4 else chk [] l) else 3
theorem zVz (l:List Pr) (a:Pr) (h:l.length<4611686018427387904):zBe l a=some (l.any λb=>decide (b.Key=a.Key)):=by
 unfold zBe zDd;rw [zB2,zGz _ _ _ h];rw [zMy (λp q _=>some (if q.any (λb=>decide (b.Key=a.Key))=true then ((p.length+q.findIdx λb=>decide (b.Key=a.Key):Nat):Int) else -1)) ?_ ?_]
 ·cases h:l.any (λb=>decide (b.Key=a.Key))<;>simp [zAh]
 ·intro s;rfl
 ·intro p x q _ k _ hk
  simp only [zAh,zJk,hk]
  by_cases hx:x.Key=a.Key
  ·simp [hx,List.findIdx_cons]
  ·simp [hx,List.findIdx_cons];congr 1;omega
theorem zXc (name:Txt) (l:List Pr):zJl name l=some (zL3 name l):=by
 unfold zJl zL3;rw [zPz,zAh]
 by_cases hn:zJz name=true
 ·rw [hn,if_neg (by simp),if_pos rfl]
  by_cases hl:l.length>4
  ·rw [if_pos (by omega),if_pos hl]
  rw [if_neg (by omega),if_neg hl,zB2,zOk _ _ (by omega)];refine zMy (λp q _=>some (chk p q)) (λ_=>rfl) ?_;intro p x q _ k hp hk;subst hp;simp only [zAh,zPz,zTb,zB2,zU4,zVz p x (by simp at hl;omega),hk,chk]
  cases zJz x.Key<;>cases zSr x.Val<;>simp
  split<;>rfl
 ·simp at hn
  rw [hn];rfl
end Go.Proofs.YthjhejgjcdajdaaGreatDoor
namespace Go.Proofs.YthjhejgjcdajdaaGreatDoor
open Go Go.RowKit Go.Wk
def zQ (a:Pr):List Pr→List Pr
 | []=>[a]
 | b::l=>if Op.bytesLess a.Key b.Key=true then b::zQ a l else a::b::l
def srt (l:List Pr):List Pr:=(l.foldl (λacc a=>zQ a acc) []).reverse
theorem zWk {α:Type} {p:List α} {x y:α} {q:List α} {i:Int} (h:i=p.length):zLd (p++x::q) i y=p++y::q:=by subst h;simp [zLd]
theorem zXj (a b:Pr):zJ1 a b=some (if Op.bytesLess a.Key b.Key=true then -1 else if Op.bytesLess b.Key a.Key=true then 1 else 0):=by
 simp [zJ1,zIq,zHy];grind
theorem zgr (j:List Pr→Option (List Pr)) (x:Pr):∀ (pre rest:List Pr) (n:Nat),pre.length<n→pre.length<4611686018427387904 →
 zAu 0 j n (pre.reverse++x::rest) (pre.length:Int)=j ((zQ x pre).reverse++rest)
 | [],rest,n,h,_=>by
  obtain ⟨n,rfl⟩:∃ m,n=m+1:=⟨n-1,by omega⟩;rw [zAu,zB2,if_neg (by simp)];rfl
 | b::pre,rest,n,h,hb=>by
  obtain ⟨n,rfl⟩:∃ m,n=m+1:=⟨n-1,by omega⟩;simp only [List.length_cons] at h hb
  have e1:(b::pre).reverse++x::rest=(pre.reverse++[b])++x::rest:=by simp
  have e2:(b::pre).reverse++x::rest=pre.reverse++b::(x::rest):=by simp
  have e3:pre.reverse++b::b::rest=(pre.reverse++[b])++b::rest:=by simp
  have i1:idx ((b::pre).reverse++x::rest) ((b::pre).length:Int)=some x:=by rw [e1];exact zRj (by simp)
  have w1:W64 (((b::pre).length:Int)-1)=(pre.length:Int):=by rw [List.length_cons,zAs (by omega) (by omega)];omega
  have i2:idx ((b::pre).reverse++x::rest) (pre.length:Int)=some b:=by rw [e2];exact zRj (by simp)
  rw [zAu,zB2,if_pos (by simp only [List.length_cons];omega),i1,zAh,w1,i2,zAh,zXj,zAh,zAh,zAh]
  have s1:zLd ((b::pre).reverse++x::rest) ((b::pre).length:Int) b=pre.reverse++b::b::rest:=by rw [e1,zWk (by simp)];simp
  rw [s1,zRj (by simp),zAh,zWk (by simp),show pre.reverse++x::b::rest=pre.reverse++x::(b::rest) from rfl,zgr j x pre (b::rest) n (by omega) (by omega)];rw [zQ]
  by_cases hx:Op.bytesLess x.Key b.Key=true
  ·simp [hx]
  ·simp [hx];grind
theorem zgs (j:List Pr→Option (List Pr)) (N:Nat) (hN:N<4611686018427387904):∀ (q p:List Pr) (n:Nat),q.length<n→p.length+q.length=N →
 zAr 0 N j n (p.reverse++q) (p.length:Int)=j (q.foldl (λacc a=>zQ a acc) p).reverse
 | [],p,n,h,hl=>by
  obtain ⟨n,rfl⟩:∃ m,n=m+1:=⟨n-1,by omega⟩;rw [zAr,if_neg (by simp at hl;omega)];simp
 | x::q,p,n,h,hl=>by
  obtain ⟨n,rfl⟩:∃ m,n=m+1:=⟨n-1,by omega⟩;simp only [List.length_cons] at h hl
  have hlen:∀ p:List Pr,(zQ x p).length=p.length+1:=by
   intro p
   induction p with
   | nil=>rfl
   | cons b p ih=>unfold zQ;split<;>simp [ih]
  rw [zAr,if_pos (by omega),zB2,zgr _ x p q _ (by unfold fuel;omega) (by omega)];have:=zgs j N hN q (zQ x p) n (by omega) (by rw [hlen];omega);rw [hlen] at this;rw [zEx (by omega),this,List.foldl_cons]
theorem zTc (l:List Pr) (h:l.length<4611686018427387904):zB5 l 0 l.length=some (srt l):=by
 unfold zB5;rw [zB2,show W64 (0+1)=1 by decide]
 match l with
 | []=>rfl
 | x::l=>exact zgs some (x::l).length h l [x] fuel (by unfold fuel;simp at h;omega) (by simp;omega)
theorem zX1 (x:Pr):∀ p:List Pr,(zQ x p).length=p.length+1
 | []=>rfl
 | b::p=>by unfold zQ;split<;>simp [zX1 x p]
theorem zOb (l:List Pr):(srt l).length=l.length:=by
 have:∀ (l p:List Pr),(l.foldl (λacc a=>zQ a acc) p).length=p.length+l.length:=by
  intro l
  induction l with
  | nil=>intro p;rfl
  | cons x l ih=>intro p;rw [List.foldl_cons,ih,zX1,List.length_cons];omega
 unfold srt;rw [List.length_reverse,this];simp
theorem zYg (l:List Pr) (h:l.length≤20):zD2 l l.length=some (srt l):=by
 obtain ⟨F,hF⟩:∃ m,fuel=m+2:=zJs 2 (by omega);unfold zD2;simp only [zB2];rw [hF,zB4]
 by_cases h20:l.length=20
 ·rw [if_pos (by omega),show (20:Int)=(l.length:Int) by omega,zTc l (by omega),zAh,zB4,if_neg (by rw [zAs (by omega) (by omega)];omega)]
  rw [zB5,zB2];rw [hF,zAr,if_neg (by rw [zAs (by omega) (by omega)];omega),zAh,zBd,if_neg (by omega)]
 ·rw [if_neg (by omega),zTc l (by omega),zAh,zBd,if_neg (by omega)]
theorem zYi (l:List Pr) (h:l.length≤20):zKf l=some (srt l):=by
 unfold zKf zCl zCq;rw [zB6 (by simp;omega),zAh,List.nil_append,zYg l h];rfl
theorem zgh (x0:List Pr) (y:Int) (a:Pr) (ha:idx x0 y=some a) (j:Int→Option (List Pr)) (post:List Pr):∀ (pre:List Pr) (n:Nat),pre.length<n→pre.length<4611686018427387904 →
 zBb x0 (pre.reverse++post) y j n (pre.length:Int)=j ((pre.dropWhile λb=>Op.bytesLess a.Key b.Key).length:Nat)
 | [],n,h,_=>by
  obtain ⟨n,rfl⟩:∃ m,n=m+1:=⟨n-1,by omega⟩;rw [zBb,zB2,if_neg (by simp)];rfl
 | b::pre,n,h,hb=>by
  obtain ⟨n,rfl⟩:∃ m,n=m+1:=⟨n-1,by omega⟩;simp only [List.length_cons] at h hb
  have w1:W64 (((b::pre).length:Int)-1)=(pre.length:Int):=by rw [List.length_cons,zAs (by omega) (by omega)];omega
  have e2:(b::pre).reverse++post=pre.reverse++b::post:=by simp
  rw [zBb,zB2,if_pos (by simp only [List.length_cons];omega),w1,e2,zRj (by simp),zAh,ha,zAh];dsimp only
  by_cases hx:Op.bytesLess a.Key b.Key=true
  ·rw [if_pos hx,List.dropWhile_cons,if_pos hx]
   have:=zgh x0 y a ha j (b::post) pre n (by omega) (by omega);simpa using this
  ·rw [if_neg hx,List.dropWhile_cons,if_neg hx]
theorem zXt (a:Pr) (p:List Pr):zQ a p=(p.takeWhile λb=>Op.bytesLess a.Key b.Key)++a::(p.dropWhile λb=>Op.bytesLess a.Key b.Key):=by
 induction p with
 | nil=>rfl
 | cons b p ih=>unfold zQ;split<;>simp_all
theorem zOd (l:List Pr) (h:l.length≤1048576):zDc l=some (srt l):=by
 unfold zDc;rw [zB2,zJq _ _ _ (by omega)];rw [zMz (λp s=>s.length=p.length) (λ_ q s=>some (q.foldl (λacc a=>zQ a acc) s.reverse).reverse) rfl (λs _=>by simp)]
 ·rfl
 ·intro p x q s k hp hs hk
  subst hp;have hx:idx (p++x::q) (p.length:Int)=some x:=zFy p x q;have hr:=zgh (p++x::q) (p.length:Int) x hx;obtain ⟨pre,rfl⟩:∃ pre,s=pre.reverse:=⟨s.reverse,by simp⟩
  have hr:=λj=>hr j [] pre fuel (by unfold fuel;simp at hs h;omega) (by simp at hs h;omega)
  simp only [List.append_nil] at hr;rw [zB2,List.length_reverse,hr];have hd:pre=(pre.takeWhile λb=>Op.bytesLess x.Key b.Key)++(pre.dropWhile λb=>Op.bytesLess x.Key b.Key):=(List.takeWhile_append_dropWhile ..).symm;have hsp:=zXt x pre;generalize (pre.takeWhile λb=>Op.bytesLess x.Key b.Key)=u at hd hsp;generalize (pre.dropWhile λb=>Op.bytesLess x.Key b.Key)=v at hd hsp
  have hl:u.length+v.length≤1048576:=by
   have:=congrArg List.length hd;simp at this hs h;omega
  have e1:pre.reverse=v.reverse++u.reverse:=by rw [hd];simp
  have c1:zNt pre.reverse 0 (v.length:Int)=some v.reverse:=by rw [e1];have:=zU4 v.reverse u.reverse;simpa using this
  have c2:zNt pre.reverse (v.length:Int) (pre.length:Nat)=some u.reverse:=by rw [e1,show pre.length=(v.reverse++u.reverse).length by rw [hd];simp;omega];have:=zVy v.reverse u.reverse;rw [List.length_reverse] at this;exact this
  rw [c1,zAh,zB6 (by simp;omega),zAh,zAh,zB6 (by simp;omega),zAh,c2,zAh,zB6 (by simp;omega),zAh,hk]
  ·rw [List.foldl_cons];simp [hsp]
  ·have:=congrArg List.length hd;simp at this hs ⊢;omega
end Go.Proofs.YthjhejgjcdajdaaGreatDoor
set_option linter.unusedVariables false
set_option linter.unusedSimpArgs false
namespace Go.Proofs.YthjhejgjcdajdaaGreatDoor
open Go Go.RowKit Go.Wk
theorem zd5 (l:List Pr) (x:Pr) (y:Nat) (hx:idx l (y:Int)=some x) (j:Unit→Option Int):∀ (b a q:List Pr) (n:Nat),l=a++b++q→y=(a++b).length→b.length<n→l.length<4611686018427387904 →
 zBg l y j n (a.length:Int)=if b.any (λb=>decide (b.Key=x.Key))=true then some 8 else j ()
 | [],a,q,n,hl,hy,h,_=>by
  obtain ⟨n,rfl⟩:∃ m,n=m+1:=⟨n-1,by omega⟩;rw [zBg,if_neg (by simp at hy;omega)];rfl
 | z::b,a,q,n,hl,hy,h,hb=>by
  obtain ⟨n,rfl⟩:∃ m,n=m+1:=⟨n-1,by omega⟩;simp only [List.length_cons] at h
  have hz:idx l (a.length:Int)=some z:=by rw [hl,List.append_assoc];exact zFy _ _ _
  have ih:=zd5 l x y hx j b (a++[z]) q n (by rw [hl];simp) (by rw [hy];simp) (by omega) hb;rw [zBg,if_pos (by rw [hy];simp;omega),hz,zAh,hx,zAh,zEx (by simp [hl] at hb;omega)];rw [List.length_append,List.length_singleton] at ih;rw [ih,List.any_cons]
  by_cases hk:z.Key=x.Key<;>simp [hk]
theorem zRv (name:Txt) (l:List Pr):zEa name l=some (zL3 name l):=by
 unfold zEa zL3;rw [zT6,zAh]
 by_cases hn:zJz name=true
 ·rw [hn,if_neg (by simp),if_pos rfl]
  by_cases hl:l.length>4
  ·rw [if_pos (by omega),if_pos hl]
  rw [if_neg (by omega),if_neg hl,zB2,zK6 _ _ (by omega)];refine zMy (λp q _=>some (chk p q)) (λ_=>rfl) ?_;intro p x q _ k hp hk
  have h2:=λj=>zd5 l x p.length (by rw [← hp];exact zFy _ _ _) j p [] (x::q) fuel (by simpa using hp.symm) (by simp) (by unfold fuel;simp [← hp] at hl;omega) (by omega)
  simp only [List.length_nil,Int.natCast_zero,Int.cast_ofNat_Int] at h2;simp only [zAh,zT6,zVk,zB2,h2,hk,chk]
  cases zJz x.Key<;>cases zSr x.Val<;>simp
  split<;>rfl
 ·simp at hn
  rw [hn];rfl
def zV1 (l:List Pr):Bool:=decide (l.length≤20)&&l.all λa=>decide (a.Key.length≤100)&&decide (a.Val.length≤100)
theorem zbu (l:List Pr):zFs l=some (zV1 l):=by
 unfold zFs zV1
 by_cases h:l.length≤20
 ·rw [if_neg (by omega),zB2,zK5 _ _ (by omega),zN (λa=>decide (a.Key.length≤100)&&decide (a.Val.length≤100)) (some false)]
  ·simp [h];grind
  ·intro i x k _
   simp only [zB2,zAh]
   grind
 ·rw [if_pos (by omega)];simp [h]
def at1 (a:Pr):Txt:=[59]++a.Key++[61]++a.Val
def zKu (l:List Pr):Txt:=l.flatMap at1
theorem zQc (a:Pr) (l:List Pr):zKu (a::l)=at1 a++zKu l:=by simp [zKu]
theorem zff (a:Pr):(at1 a).length=a.Key.length+a.Val.length+2:=by simp [at1];omega
theorem textL (l:List Pr) (h:l.length≤4) (hs:∀ a∈l,a.Key.length≤32∧a.Val.length≤32) (s:Txt) (hs0:s.length≤1000) (j:Txt→Option (Txt×Int)) (hj:∀ s,j s=some (s,0)) :
 zFa l j fuel 0 s=some (s++zKu l,0):=by
 rw [zP6 _ _ _ (by omega)];refine zMz (λp t=>t.length≤1000+66*p.length) (λ_ q t=>some (t++zKu q,0)) (by simp;omega) (λs _=>by simp [hj,zKu]) ?_;intro p x q t k hp ht hk;have hx:=hs x (by simp [← hp])
 have hpl:p.length≤4:=by rw [← hp] at h;simp at h;omega
 rw [zAh,zH6 (by simp;omega),zAh,zH6 (by simp;omega),zAh,zH6 (by simp;omega),zAh,zB6 (by simp;omega),zAh,hk]
 ·rw [zQc];simp [at1]
 ·simp;omega
theorem zba (l:List Pr) (h:l.length≤4) (hs:∀ a∈l,a.Key.length≤32∧a.Val.length≤32) (s:Txt) (hs0:s.length≤1000) (j:Txt→Option (Txt×Int)) (hj:∀ s,j s=some (s,0)) :
 zBy l j fuel s 0=some (s++zKu l,0):=by
 rw [zKl _ _ _ (by omega)];refine zMz (λp t=>t.length≤1000+66*p.length) (λ_ q t=>some (t++zKu q,0)) (by simp;omega) (λs _=>by simp [hj,zKu]) ?_;intro p x q t k hp ht hk;have hx:=hs x (by simp [← hp])
 have hpl:p.length≤4:=by rw [← hp] at h;simp at h;omega
 simp only [zAh];rw [zH6 (by simp;omega),zAh,zH6 (by simp;omega),zAh,zH6 (by simp;omega),zAh,zH6 (by simp;omega),zAh,hk]
 ·rw [zQc];simp [at1]
 ·simp;omega
theorem zN1 {s:Txt} (h:zJz s=true):s.length≤32:=by unfold zJz at h;simp at h;exact h.1
theorem zTi {s:Txt} (h:zSr s=true):s.length≤32:=by unfold zSr at h;simp at h;exact h.1.1
theorem zXb:∀ (l p:List Pr),chk p l=0→∀ a∈l,zJz a.Key=true∧zSr a.Val=true∧∀ b∈p,b.Key≠a.Key
 | [],p,_,a,ha=>by cases ha
 | x::l,p,h,a,ha=>by
  rw [chk] at h
  split at h
  ·rename_i hx
   split at h
   ·cases h
   ·rename_i hp
    rcases List.mem_cons.1 ha with rfl|ha
    ·simp at hx hp;exact ⟨hx.1,hx.2,hp⟩
    ·have:=zXb l (p++[x]) h a ha
     exact ⟨this.1,this.2.1,λb hb=>this.2.2 b (by simp [hb])⟩
  ·cases h
theorem zOz {name:Txt} {l:List Pr} (h:zL3 name l=0):zJz name=true∧l.length≤4∧chk [] l=0:=by
 unfold zL3 at h
 split at h
 ·split at h
  ·cases h
  ·exact ⟨by assumption,by omega,h⟩
 ·cases h
theorem zTx (x a:Pr):∀ p:List Pr,a∈zQ x p↔a=x∨a∈p
 | []=>by simp [zQ]
 | b::p=>by unfold zQ;split<;>simp [zTx x a p];grind
theorem zVh (a:Pr) (l:List Pr):a∈srt l↔a∈l:=by
 have:∀ (l p:List Pr),a∈(l.foldl (λacc a=>zQ a acc) p)↔a∈p∨a∈l:=by
  intro l
  induction l with
  | nil=>intro p;simp
  | cons x l ih=>intro p;rw [List.foldl_cons,ih,zTx];simp;grind
 unfold srt;rw [List.mem_reverse,this];simp
def zfp (name:Txt) (l:List Pr):Txt×Int:=if zL3 name l=0 then (name++zKu (srt l),0) else ([],zL3 name l)
theorem zdw (name:Txt) (l:List Pr):zKo name l=some (zfp name l):=by
 unfold zKo zfp;rw [zXc,zAh]
 by_cases h:zL3 name l=0
 ·rw [if_neg (by omega),if_pos h]
  obtain ⟨h1,h2,h3⟩:=zOz h;have h4:=zN1 h1;rw [zB6 (by simp;omega),zAh,zYi l (by omega),zAh,zB2,List.nil_append]
  refine textL _ (by rw [zOb];exact h2) (λa ha=>?_) name (by omega) _ λ_=>rfl
  have:=zXb l [] h3 a ((zVh a l).1 ha);exact ⟨zN1 this.1,zTi this.2.1⟩
 ·rw [if_pos h,if_neg h]
theorem zXn (name:Txt) (l:List Pr):zEo name l=some (zfp name l):=by
 unfold zEo zfp;rw [zRv,zAh]
 by_cases h:zL3 name l=0
 ·rw [if_neg (by omega),if_pos h]
  obtain ⟨h1,h2,h3⟩:=zOz h;have h4:=zN1 h1;rw [zOd l (by omega),zAh,zB2]
  refine zba _ (by rw [zOb];exact h2) (λa ha=>?_) name (by omega) _ λ_=>rfl
  have:=zXb l [] h3 a ((zVh a l).1 ha);exact ⟨zN1 this.1,zTi this.2.1⟩
 ·rw [if_pos h,if_neg h]
theorem ze4 (a b:List Pr) (h:a.length<4611686018427387904):zGj a b=some (decide (a=b)):=by
 unfold zGj
 by_cases hl:a.length=b.length
 ·rw [if_neg (by omega),zB2,zKm _ _ _ h]
  rw [zMy (λp q _=>some (decide (q=b.drop p.length))) ?_ ?_]
  ·simp
  ·intro s;simp [hl]
  ·intro p x q _ k hp hk
   rw [hk]
   have:p.length<b.length:=by rw [← hl,← hp];simp
   rw [zSb this,zAh,zAh,List.drop_eq_getElem_cons this,List.length_append,List.length_singleton]
   by_cases hx:x=b[p.length]
   ·rw [if_neg (λh=>h hx)];congr 1;apply decide_eq_decide.2;rw [List.cons.injEq];exact ⟨λh=>⟨hx,h⟩,λh=>h.2⟩
   ·rw [if_pos hx,decide_eq_false];rw [List.cons.injEq];exact λh=>hx h.1
 ·rw [if_pos (by omega)]
  have:a≠b:=λh=>hl (by rw [h])
  simp [this]
end Go.Proofs.YthjhejgjcdajdaaGreatDoor
set_option linter.unusedVariables false
set_option linter.unusedSimpArgs false
namespace Go.Proofs.YthjhejgjcdajdaaGreatDoor
open Go Go.RowKit Go.Wk
def zHo (c:UInt8):Txt→Txt×Txt×Bool
 | []=>([],[],false)
 | x::s=>if x=c then ([],s,true) else (x::(zHo c s).1,(zHo c s).2)
theorem zZx {c:UInt8}:∀ {s:Txt},(zHo c s).2.2=false→zHo c s=(s,[],false)
 | [],_=>rfl
 | x::s,h=>by
  unfold zHo at h ⊢
  split at h
  ·cases h
  ·rename_i hx;rw [if_neg hx,zZx h]
theorem zU5 {c:UInt8}:∀ {s:Txt},(zHo c s).2.2=true→s=(zHo c s).1++c::(zHo c s).2.1
 | [],h=>by cases h
 | x::s,h=>by
  unfold zHo at h ⊢
  split at h
  ·rename_i hx;rw [if_pos hx,hx];rfl
  ·rename_i hx;rw [if_neg hx];have:=zU5 h;show x::s=x::((zHo c s).1++c::(zHo c s).2.1);rw [← this]
theorem zRn {c:UInt8}:∀ {s:Txt},(zHo c s).1.length+(zHo c s).2.1.length≤s.length
 | []=>by simp [zHo]
 | x::s=>by
  unfold zHo
  split
  ·simp
  ·have:=zRn (c:=c) (s:=s);simp;omega
theorem zQ0 (c:UInt8):∀ s:Txt,Lib.indexByte s c=if (zHo c s).2.2=true then ((zHo c s).1.length:Int) else -1
 | []=>rfl
 | x::s=>by
  unfold Lib.indexByte zHo
  by_cases hx:x=c
  ·simp [hx]
  ·rw [zQ0 c s]
   simp only [hx,beq_iff_eq,if_false]
   split
   ·rw [if_neg (by omega),List.length_cons];simp
   ·simp
theorem zPm (s:Txt) (c:UInt8) (h:s.length<4611686018427387904):zHg s [c]=some (zHo c s):=by
 have key:zE3 s [c]=some (if (zHo c s).2.2=true then ((zHo c s).1.length:Int) else -1):=by
  unfold zE3
  by_cases hs:[c]=s
  ·rw [if_pos (.inr hs),← hs];simp [zHo]
  ·rw [if_neg (by simp [hs]),if_pos (show (([c]:Txt).length:Int)=1 from rfl),idx0,zAh,zEk,zAh,zQ0]
 unfold zHg zGp;rw [key,zAh]
 by_cases hf:(zHo c s).2.2=true
 ·have h1:=zU5 hf
  have hl:=congrArg List.length h1;simp at hl
  have c1:zNt s 0 ((zHo c s).1.length:Int)=some (zHo c s).1:=by
   conv=>lhs;arg 1;rw [h1]
   exact zU4 _ _
  have c2:zNt s (((zHo c s).1.length:Int)+1) (s.length:Nat)=some (zHo c s).2.1:=by
   have:=zVy ((zHo c s).1++[c]) (zHo c s).2.1;rw [List.append_assoc,List.singleton_append,← h1] at this;simpa using this
  rw [if_pos hf,if_pos (by omega),c1,zAh];show ((zNt s (W64 (((zHo c s).1.length:Int)+1)) (s.length:Nat)).bind _).bind _=_;rw [zAs (by omega) (by omega),c2,zAh,zAh];simp [← hf]
 ·have h1:=zZx (by simpa using hf:(zHo c s).2.2=false)
  rw [if_neg hf,if_neg (by omega),zAh,h1]
def zT7 (s:Txt):Option Pr:=if ((zHo 61 s).2.2&&zJz (zHo 61 s).1&&zSr (zHo 61 s).2.1)=true then some ⟨(zHo 61 s).1,(zHo 61 s).2.1⟩ else none
theorem zef (s:Txt) (h:s.length<4611686018427387904):zMj s=some (match zT7 s with | some a=>(a,0) | none=>(⟨[],[]⟩,3)):=by
 unfold zMj zT7;rw [zPm s _ h,zAh];simp only [zB2,zPz,zTb,zAh]
 cases (zHo 61 s).2.2<;>cases zJz (zHo 61 s).1<;>cases zSr (zHo 61 s).2.1<;>simp
def zdi (l:List Pr) (key:Txt):Int:=if l.any (λb=>decide (b.Key=key))=true then 8 else match l.getLast? with | some b=>if Op.bytesLess key b.Key=true then 9 else 0 | none=>0
theorem zXx (l:List Pr) (key:Txt) (h0:l≠[]) (h:l.length<4611686018427387904):zJj l key=some (zdi l key):=by
 unfold zJj zdi;rw [zB2,zNo _ _ _ h,zN (λb=>!decide (b.Key=key)) (some 8)]
 ·obtain ⟨b,hb⟩:∃ b,l.getLast?=some b:=⟨_,List.getLast?_eq_some_getLast h0⟩
  have hp:=List.length_pos_iff.2 h0
  have hi:idx l (W64 ((l.length:Int)-1))=some b:=by
   rw [zAs (by omega) (by omega),show (l.length:Int)-1=((l.length-1:Nat):Int) by omega,zNr,← List.getLast?_eq_getElem?];exact hb
  rw [hi,zAh,hb]
  by_cases ha:l.any (λb=>decide (b.Key=key))=true
  ·rw [if_pos ha,if_neg]
   simp at ha ⊢;exact ha
  ·rw [if_neg ha,if_pos]
   ·show (if _ then _ else _)=some (if _ then _ else _)
    split<;>rfl
   ·simp at ha ⊢;exact ha
 ·intro i x k _
  rw [zAh]
  by_cases hx:x.Key=key<;>simp [hx]
def spl:Txt→Txt×List Txt
 | []=>([],[])
 | x::s=>if x=59 then ([],(spl s).1::(spl s).2) else (x::(spl s).1,(spl s).2)
def zRy (more:Bool) (rest:Txt):List Txt:=if more=true then (spl rest).1::(spl rest).2 else []
theorem zVi:∀ s,(zHo 59 s).1=(spl s).1∧zRy (zHo 59 s).2.2 (zHo 59 s).2.1=(spl s).2
 | []=>⟨rfl,rfl⟩
 | x::s=>by
  unfold zHo spl
  by_cases hx:x=59
  ·rw [if_pos hx,if_pos hx];exact ⟨rfl,rfl⟩
  ·rw [if_neg hx,if_neg hx];have:=zVi s;exact ⟨by simp [this.1],this.2⟩
theorem zTk:∀ s,s=(spl s).1++(spl s).2.flatMap (λp=>59::p)
 | []=>rfl
 | x::s=>by
  unfold spl
  by_cases hx:x=59
  ·rw [if_pos hx];show x::s=[]++(59::(spl s).1++(spl s).2.flatMap (λp=>59::p));rw [hx,List.nil_append,List.cons_append,← zTk s]
  ·rw [if_neg hx];show x::s=x::((spl s).1++_);rw [← zTk s]
abbrev Res:=Txt×List Pr×Int×Int
def pgo (name:Txt):List Pr→Int→List Txt→Res
 | l,_,[]=>(name,l,0,0)
 | l,at_,p::ps=>
  if l.length=4 then ([],[],at_,4) else
  match zT7 p with
  | none=>([],[],at_,3)
  | some a=>if zdi l a.Key=0 then pgo name (l++[a]) (at_+p.length+1) ps else ([],[],at_,zdi l a.Key)
def zSt (s:Txt):Res:=if zJz (spl s).1=true then pgo (spl s).1 [] ((spl s).1.length+1) (spl s).2 else ([],[],0,3)
theorem zgk (name:Txt) (j:List Pr→Option Res) (hj:∀ l,j l=some (name,l,0,0)):∀ (n:Nat) (l:List Pr) (at_:Int) (rest:Txt) (more:Bool),(if more=true then 1+rest.length else 0)<n→l.length≤4→0≤at_→at_+rest.length≤1000000 →
 zDs j n l at_ rest more=some (pgo name l at_ (zRy more rest)):=by
 intro n
 induction n with
 | zero=>intro l at_ rest more h;omega
 | succ n ih=>
  intro l at_ rest more h hl h0 h1;rw [zDs]
  cases more with
  | false=>rw [if_neg (by simp),hj];rfl
  | true=>
   rw [if_pos rfl] at h ⊢;obtain ⟨e1,e2⟩:=zVi rest;have hcl:=zRn (c:=59) (s:=rest)
   have hpo:zRy true rest=(zHo 59 rest).1::zRy (zHo 59 rest).2.2 (zHo 59 rest).2.1:=by rw [e1,e2];rfl
   rw [zPm rest _ (by omega),zAh,zef _ (by omega),zAh,hpo,pgo];simp only [zB2]
   have hmore:(if (zHo 59 rest).2.2=true then 1+(zHo 59 rest).2.1.length else 0)<n∧((zHo 59 rest).2.2=true→(zHo 59 rest).1.length+(zHo 59 rest).2.1.length+1=rest.length):=by
    by_cases hm:(zHo 59 rest).2.2=true
    ·have hc:=congrArg List.length (zU5 hm)
     simp at hc;rw [if_pos hm];omega
    ·rw [if_neg hm];exact ⟨by omega,λh=>absurd h hm⟩
   generalize (zHo 59 rest).1=pt at *;generalize (zHo 59 rest).2.1=rst at *;generalize (zHo 59 rest).2.2=mr at *
   by_cases h4:l.length=4
   ·rw [if_pos (by omega),if_pos h4,if_neg (by simp),if_pos (by simp)]
   ·rw [if_neg (by omega),if_neg h4]
    cases hp:zT7 pt with
    | none=>simp
    | some a=>
     have hnext:zDs j n (l++[a]) (W64 (at_+W64 ((pt.length:Int)+1))) rst mr=some (pgo name (l++[a]) (at_+pt.length+1) (zRy mr rst)):=by
      rw [zAs (z:=(pt.length:Int)+1) (by omega) (by omega),zAs (by omega) (by omega),← Int.add_assoc]
      cases mr with
      | false=>
       obtain ⟨m,rfl⟩:∃ m,n=m+1:=⟨n-1,by omega⟩;rw [zDs,if_neg (by simp),hj];rfl
      | true=>exact ih _ _ _ _ hmore.1 (by simp;omega) (by omega) (by have:=hmore.2 rfl;omega)
     have hap:zDu l [(⟨a.Key,a.Val⟩:Pr)]=some (l++[a]):=zB6 (by simp;omega);dsimp only
     by_cases hl0:l=[]
     ·subst hl0
      rw [if_neg (by simp),if_neg (by simp),hap,zAh,hnext,if_pos (show zdi [] a.Key=0 from rfl)]
     ·have:=List.length_pos_iff.2 hl0
      rw [if_pos ⟨rfl,by omega⟩,zXx l a.Key hl0 (by omega),zAh]
      by_cases hf:zdi l a.Key=0
      ·rw [if_neg (by omega),hap,zAh,hnext,if_pos hf]
      ·rw [if_pos hf,if_neg hf]
theorem ze0 (s:Txt):(spl s).1.length≤s.length:=by have:=congrArg List.length (zTk s);simp at this;omega
theorem zbi (s:Txt) (h:s.length≤100000):zLa s=some (zSt s):=by
 unfold zLa zSt;obtain ⟨e1,e2⟩:=zVi s;have hcl:=zRn (c:=59) (s:=s);rw [zPm s _ (by omega),zAh,zPz,zAh,e1];have hsl:=ze0 s
 by_cases hn:zJz (spl s).1=true
 ·rw [hn,if_neg (by simp),if_pos rfl,zB2,← e2]
  rw [zAs (by omega) (by omega)];exact zgk _ _ (λl=>rfl) _ _ _ _ _ (by unfold fuel;split<;>omega) (by simp) (by omega) (by rw [← e1];omega)
 ·simp at hn
  rw [hn];rfl
end Go.Proofs.YthjhejgjcdajdaaGreatDoor
set_option linter.unusedVariables false
set_option linter.unusedSimpArgs false
namespace Go.Proofs.YthjhejgjcdajdaaGreatDoor
open Go Go.RowKit Go.Wk
end Go.Proofs.YthjhejgjcdajdaaGreatDoor
set_option linter.unusedVariables false
set_option linter.unusedSimpArgs false
namespace Go.Proofs.YthjhejgjcdajdaaGreatDoor
open Go Go.RowKit Go.Wk
def zh2:List Pr→Prop
 | []=>True
 | [_]=>True
 | a::b::l=>Op.bytesLess a.Key b.Key=false∧zh2 (b::l)
theorem zWg:∀ (q p:List Pr),zh2 (q.reverse++p)→q.foldl (λacc a=>zQ a acc) p=q.reverse++p
 | [],p,_=>rfl
 | x::q,p,h=>by
  rw [List.foldl_cons]
  have hx:zQ x p=x::p:=by
   cases p with
   | nil=>rfl
   | cons b p=>
    have:∀ u:List Pr,zh2 (u++(x::b::p))→Op.bytesLess x.Key b.Key=false:=by
     intro u
     induction u with
     | nil=>exact λh=>h.1
     | cons y u ih=>
      intro h
      cases u with
      | nil=>exact h.2.1
      | cons z u=>exact ih h.2
    rw [zQ,if_neg (by rw [this q.reverse (by simpa using h)];simp)]
  rw [hx,zWg q (x::p) (by simpa using h)];simp
theorem zg9 {l:List Pr} (h:zh2 l.reverse):srt l=l:=by unfold srt;rw [zWg l [] (by simpa using h)];simp
end Go.Proofs.YthjhejgjcdajdaaGreatDoor
set_option linter.unusedVariables false
set_option linter.unusedSimpArgs false
namespace Go.Proofs.YthjhejgjcdajdaaGreatDoor
open Go Go.RowKit Go.Wk
theorem zbt {x y:Txt} (h:Op.bytesLess x y=true):Op.bytesLess y x=false:=by
 rw [bytesLess_eq] at h ⊢;simp at h ⊢;exact List.le_of_lt h
theorem le_trans {x y z:Txt} (h:Op.bytesLess y x=false) (h':Op.bytesLess z y=false):Op.bytesLess z x=false:=by
 rw [bytesLess_eq] at h h' ⊢;simp at h h' ⊢;exact List.le_trans h h'
def ge (a b:Pr):Prop:=Op.bytesLess a.Key b.Key=false
theorem zV2 (x:Pr):∀ p:List Pr,(zQ x p).Perm (x::p)
 | []=>.refl _
 | b::p=>by
  unfold zQ;split
  ·exact ((zV2 x p).cons b).trans (.swap x b p)
  ·exact .refl _
theorem zZm (x:Pr):∀ p:List Pr,p.Pairwise ge→(zQ x p).Pairwise ge
 | [],_=>by simp [zQ]
 | b::p,h=>by
  obtain ⟨h1,h2⟩:=List.pairwise_cons.1 h;unfold zQ;split
  ·rename_i hx
   refine List.pairwise_cons.2 ⟨λa ha=>?_,zZm x p h2⟩
   rcases (zTx x a p).1 ha with rfl|ha
   ·exact zbt hx
   ·exact h1 a ha
  ·rename_i hx
   simp only [Bool.not_eq_true] at hx;refine List.pairwise_cons.2 ⟨λa ha=>?_,h⟩
   rcases List.mem_cons.1 ha with rfl|ha
   ·exact hx
   ·exact le_trans (h1 a ha) hx
theorem zVu:∀ (l p:List Pr),p.Pairwise ge→(l.foldl (λacc a=>zQ a acc) p).Pairwise ge∧(l.foldl (λacc a=>zQ a acc) p).Perm (l.reverse++p)
 | [],p,h=>⟨h,.refl _⟩
 | x::l,p,h=>by
  obtain ⟨h1,h2⟩:=zVu l (zQ x p) (zZm x p h);refine ⟨h1,h2.trans ?_⟩;rw [List.reverse_cons,List.append_assoc];exact (zV2 x p).append_left _
theorem zax (l:List Pr):(srt l).Perm l:=by
 have:=(zVu l [] .nil).2;rw [List.append_nil] at this;exact (List.reverse_perm _).trans (this.trans (List.reverse_perm l))
def le (a b:Pr):Prop:=Op.bytesLess b.Key a.Key=false
theorem zcx (l:List Pr):(srt l).Pairwise le:=by
 have:=(zVu l [] .nil).1;unfold srt;rw [List.pairwise_reverse];exact this
theorem zSi:∀ (l p:List Pr),chk p l=0↔(∀ a∈l,zJz a.Key=true∧zSr a.Val=true)∧(∀ a∈l,∀ b∈p,b.Key≠a.Key)∧l.Pairwise (λa b=>a.Key≠b.Key)
 | [],p=>by simp [chk]
 | x::l,p=>by
  rw [chk]
  by_cases hx:(zJz x.Key&&zSr x.Val)=true
  ·rw [if_pos hx]
   by_cases hp:p.any (λb=>decide (b.Key=x.Key))=true
   ·rw [if_pos hp]
    simp at hp;obtain ⟨b,hb,hk⟩:=hp
    constructor
    ·intro h;cases h
    ·intro h;exact absurd hk (h.2.1 x (by simp) b hb)
   ·rw [if_neg hp,zSi l (p++[x])]
    simp at hx hp ⊢
    grind
  ·rw [if_neg hx]
   simp at hx ⊢
   grind
theorem zW0 {l:List Pr} (h:chk [] l=0):chk [] (srt l)=0:=by
 rw [zSi] at h ⊢;refine ⟨λa ha=>h.1 a ((zVh a l).1 ha),λ_ _ _ hb=>(by cases hb),?_⟩;exact ((zax l).pairwise_iff (fun {x y} h=>h.symm)).2 h.2.2
theorem zTl:∀ (p:Txt) (ps:List Txt),(∀ x∈p,x≠59)→(∀ p∈ps,∀ x∈p,x≠59)→spl (p++ps.flatMap (λp=>59::p))=(p,ps)
 | x::p,ps,h,hs=>by
  rw [List.cons_append,spl,if_neg (h x (by simp)),zTl p ps (λy hy=>h y (by simp [hy])) hs]
 | [],[],_,_=>rfl
 | [],q::ps,_,hs=>by
  rw [List.nil_append,List.flatMap_cons,List.cons_append,spl,if_pos rfl,zTl q ps (hs q (by simp)) (λp hp=>hs p (by simp [hp]))]
termination_by p ps=>(ps.length,p.length)
def body (a:Pr):Txt:=a.Key++61::a.Val
theorem zXh (l:List Pr):zKu l=(l.map body).flatMap (λp=>59::p):=by
 unfold zKu
 induction l with
 | nil=>rfl
 | cons a l ih=>rw [List.flatMap_cons,ih,List.map_cons,List.flatMap_cons];simp [at1,body]
theorem zWx {c:UInt8} (h:nmC c=true):c≠59∧c≠61:=by
 constructor
 ·intro e;subst e;revert h;decide
 ·intro e;subst e;revert h;decide
theorem zQk {s:Txt} (h:zJz s=true):∀ x∈s,x≠59∧x≠61:=by
 intro x hx;unfold zJz at h
 match s,h,hx with
 | c::t,h,hx=>
  simp at h
  rcases List.mem_cons.1 hx with rfl|hx
  ·exact zWx (by simp [nmC,h.2.1])
  ·exact zWx (h.2.2 x hx)
theorem zYa {s:Txt} (h:zSr s=true):∀ x∈s,x≠59:=by
 intro x hx e;subst e;unfold zSr at h;simp at h;have:=h.2 _ hx
 revert this;decide
theorem zV7:∀ (k v:Txt),(∀ x∈k,x≠61)→zHo 61 (k++61::v)=(k,v,true)
 | [],v,_=>rfl
 | x::k,v,h=>by rw [List.cons_append,zHo,if_neg (h x (by simp)),zV7 k v λy hy=>h y (by simp [hy])]
theorem zVo {a:Pr} (hn:zJz a.Key=true) (hv:zSr a.Val=true):zT7 (body a)=some a:=by
 unfold zT7 body;rw [zV7 _ _ λx hx=>(zQk hn x hx).2];simp [hn,hv]
theorem zWu (name:Txt):∀ (q p:List Pr) (at_:Int),(p++q).length≤4→chk [] (p++q)=0→(p++q).Pairwise le→pgo name p at_ (q.map body)=(name,p++q,0,0)
 | [],p,at_,_,_,_=>by simp [pgo]
 | a::q,p,at_,h4,hc,hl=>by
  have hc':=(zSi _ _).1 hc;obtain ⟨hn,hv⟩:=hc'.1 a (by simp);have ih:=zWu name q (p++[a]) (at_+(body a).length+1) (by simpa using h4) (by simpa using hc) (by simpa using hl)
  have hfo:zdi p a.Key=0:=by
   unfold zdi;rw [if_neg]
   ·cases hb:p.getLast? with
    | none=>rfl
    | some b=>
     have:le b a:=(List.pairwise_append.1 hl).2.2 b (List.mem_of_getLast? hb) a (by simp);dsimp only;rw [if_neg (by rw [this];simp)]
   ·simp
    intro b hb;exact (List.pairwise_append.1 hc'.2.2).2.2 b hb a (by simp)
  rw [List.map_cons,pgo,if_neg (by simp at h4;omega),zVo hn hv];dsimp only;rw [if_pos hfo,ih];simp
theorem zQi {name:Txt} {l:List Pr} (h:zL3 name l=0):zSt (name++zKu (srt l))=(name,srt l,0,0):=by
 obtain ⟨h1,h2,h3⟩:=zOz h;have hcs:=zW0 h3;have hc:=(zSi _ _).1 hcs
 have hsp:spl (name++zKu (srt l))=(name,(srt l).map body):=by
  rw [zXh]
  refine zTl _ _ (λx hx=>(zQk h1 x hx).1) λp hp x hx=>?_
  obtain ⟨a,ha,rfl⟩:=List.mem_map.1 hp;unfold body at hx
  rcases List.mem_append.1 hx with hx|hx
  ·exact (zQk (hc.1 a ha).1 x hx).1
  ·rcases List.mem_cons.1 hx with rfl | hx
   ·decide
   ·exact zYa (hc.1 a ha).2 x hx
 unfold zSt;rw [hsp];dsimp only;rw [if_pos h1];have:=zWu name (srt l) [] (name.length+1) (by rw [List.nil_append,zOb];exact h2) (by rw [List.nil_append];exact hcs) (by rw [List.nil_append];exact zcx l);rw [this];simp
theorem zas {n1 n2:Txt} {l1 l2:List Pr} (h1:zL3 n1 l1=0) (h2:zL3 n2 l2=0):n1++zKu (srt l1)=n2++zKu (srt l2)↔n1=n2∧srt l1=srt l2:=by
 constructor
 ·intro h
  have e1:=zQi h1;have e2:=zQi h2;rw [h,e2] at e1;simp at e1;exact ⟨e1.1.symm,e1.2.symm⟩
 ·rintro ⟨rfl,h⟩;rw [h]
end Go.Proofs.YthjhejgjcdajdaaGreatDoor
set_option linter.unusedVariables false
set_option linter.unusedSimpArgs false
namespace Go.Proofs.YthjhejgjcdajdaaGreatDoor
open Go Go.RowKit Go.Wk
theorem zZf {l:List Pr} (h:zV1 l=true):l.length≤20:=by unfold zV1 at h;simp at h;exact h.1
theorem zRd {name:Txt} {l:List Pr} (h:zL3 name l=0):(name++zKu (srt l)).length≤32+66*4:=by
 obtain ⟨h1,h2,h3⟩:=zOz h;have:=zN1 h1
 have ht:∀ m:List Pr,(∀ a∈m,a.Key.length≤32∧a.Val.length≤32)→(zKu m).length≤66*m.length:=by
  intro m
  induction m with
  | nil=>intro _;simp [zKu]
  | cons a m ih=>intro hm;have:=ih λb hb=>hm b (by simp [hb]);have:=hm a (by simp);rw [zQc,List.length_append,zff,List.length_cons];omega
 have hs:=(zSi _ _).1 (zW0 h3)
 have:=ht (srt l) λa ha=>⟨zN1 (hs.1 a ha).1,zTi (hs.1 a ha).2⟩
 rw [zOb] at this;rw [List.length_append];omega
end Go.Proofs.YthjhejgjcdajdaaGreatDoor
set_option maxRecDepth 20000
set_option linter.unusedVariables false
set_option linter.unusedSimpArgs false
namespace Go.Proofs.YthjhejgjcdajdaaGreatDoor
open Go Go.RowKit Go.Wk
def zag (x:UInt64):Bool:=decide (x.toNat/4503599627370496%2048≠2047)
theorem zfi (x:Nat):x&&&9218868437227405312=(x/4503599627370496%2048)*4503599627370496:=by
 have e1:x/4503599627370496%2048=(x>>>52)&&&(2^11-1):=by rw [Nat.and_two_pow_sub_one_eq_mod,Nat.shiftRight_eq_div_pow]
 have e2:((x>>>52)&&&(2^11-1))*4503599627370496=((x>>>52)&&&(2^11-1))<<<52:=by rw [Nat.shiftLeft_eq]
 rw [e1,e2]
 apply Nat.eq_of_testBit_eq
 intro i;rw [Nat.testBit_and,Nat.testBit_shiftLeft,Nat.testBit_and,Nat.testBit_shiftRight,Nat.testBit_two_pow_sub_one,show (9218868437227405312:Nat)=(2^11-1)<<<52 by decide,Nat.testBit_shiftLeft,Nat.testBit_two_pow_sub_one]
 by_cases h:i≥52
 ·rw [show 52+(i-52)=i by omega]
  simp [h]
 ·simp [h]
theorem zh1 (x:UInt64):zMi x=some (zag x):=by
 unfold zMi zag
 congr 1
 apply decide_eq_decide.2
 rw [UInt64.toNat_and,show (9218868437227405312:UInt64).toNat=9218868437227405312 by rfl,zfi]
 omega
theorem zed (x:UInt64) (k:UInt64) (hk:k≠0):quo64 x k=some (UInt64.ofNat (x.toNat/k.toNat)):=by
 unfold quo64;rw [if_neg hk]
 congr 1
 apply UInt64.toNat_inj.1
 have:=x.toNat_lt;rw [UInt64.toNat_div,zBi (Nat.lt_of_le_of_lt (Nat.div_le_self _ _) (by omega))]
theorem zXm (x:UInt64) (k:UInt64) (hk:k≠0):rem64 x k=some (UInt64.ofNat (x.toNat%k.toNat)):=by
 unfold rem64;rw [if_neg hk]
 congr 1
 apply UInt64.toNat_inj.1
 have:=x.toNat_lt;rw [UInt64.toNat_mod,zBi (Nat.lt_of_le_of_lt (Nat.mod_le _ _) (by omega))]
theorem zea (x:UInt64):zFi x=some (zag x):=by
 have hx:=x.toNat_lt;unfold zFi zag;rw [zed _ _ (by decide),zAh,zXm _ _ (by decide),zAh,show (4503599627370496:UInt64).toNat=4503599627370496 by rfl,show (2048:UInt64).toNat=2048 by rfl,zBi (n:=x.toNat/4503599627370496) (by omega),zBi (n:=x.toNat/4503599627370496%2048) (by omega)]
 congr 1
 apply decide_eq_decide.2
 omega
def ltZ (x:UInt64):Bool:=decide (9223372036854775808≤x.toNat∧x.toNat%9223372036854775808≠0∧x.toNat%9223372036854775808≤9218868437227405312)
theorem zb7 (x:UInt64):zGk x 0=some (ltZ x):=by
 have hx:=x.toNat_lt
 have o0:zDz 0=some false:=by decide
 have ox:zDz x=some (decide (x.toNat%9223372036854775808>9218868437227405312)):=by
  unfold zDz;simp only [zB2];rw [zed _ _ (by decide),zAh,zXm _ _ (by decide),zAh,zXm _ _ (by decide),zAh,show (4503599627370496:UInt64).toNat=4503599627370496 by rfl,show (2048:UInt64).toNat=2048 by rfl,zBi (n:=x.toNat/4503599627370496) (by omega),zBi (n:=x.toNat/4503599627370496%2048) (by omega),zBi (n:=x.toNat%4503599627370496) (by omega)]
  by_cases h:x.toNat/4503599627370496%2048=2047
  ·rw [if_pos (by omega)];congr 1;apply decide_eq_decide.2;omega
  ·rw [if_neg (by omega)];congr 1;symm;rw [decide_eq_false_iff_not];omega
 unfold zGk ltZ;simp only [zB2];rw [ox,zAh,o0,zAh,zXm _ _ (by decide),zAh,zXm _ _ (by decide),zAh,show (9223372036854775808:UInt64).toNat=9223372036854775808 by rfl,zBi (by omega),show (0:UInt64).toNat=0 by rfl]
 by_cases h1:x.toNat%9223372036854775808>9218868437227405312
 ·rw [if_pos (decide_eq_true h1),if_pos (by first | trivial | rfl)];congr 1;symm;rw [decide_eq_false_iff_not];omega
 ·rw [if_neg (by rw [decide_eq_false h1];decide),if_neg (by decide)]
  by_cases h2:x.toNat%9223372036854775808=0
  ·rw [if_pos ⟨by omega,by rfl⟩];congr 1;symm;rw [decide_eq_false_iff_not];omega
  ·rw [if_neg (λk=>h2 (by have:=k.1;omega)),if_neg (by omega)]
   by_cases h3:x.toNat<9223372036854775808
   ·rw [if_pos ⟨by omega,by decide⟩];congr 1;apply decide_eq_decide.2
    rw [show (UInt64.ofNat (0%9223372036854775808)).toNat=0 by rfl];omega
   ·rw [if_neg (λk=>h3 (by have:=k.1;omega))];congr 1;apply decide_eq_decide.2;omega
theorem zep (x:UInt64):zOx x 0=some (ltZ x):=by
 have hx:=x.toNat_lt;unfold zOx zRi zc0 ltZ;rw [zAh,zAh]
 congr 1
 have r0:Ieee.Format.read Ieee.double (0:UInt64).toNat=.number false 0 (-1074):=by decide
 show (Ieee.Datum.order (Ieee.Format.read Ieee.double x.toNat) (Ieee.Format.read Ieee.double (0:UInt64).toNat)==some .lt)=_;rw [r0];generalize x.toNat=v at *;unfold Ieee.Format.read
 have sw:Ieee.double.signWeight=9223372036854775808:=by decide
 have bn:Ieee.double.binade=4503599627370496:=by decide
 have ir:Ieee.double.infRung=9218868437227405312:=by decide
 have lp:Ieee.double.leastPlace=-1074:=by decide
 dsimp only;rw [sw,bn,ir,lp]
 have hs:(v/9223372036854775808%2==1)=decide (9223372036854775808≤v):=by
  by_cases h:9223372036854775808≤v
  ·rw [decide_eq_true h];have:v/9223372036854775808%2=1:=by omega
   rw [this];rfl
  ·rw [decide_eq_false h];have:v/9223372036854775808%2=0:=by omega
   rw [this];rfl
 rw [hs];generalize hb:decide (9223372036854775808≤v)=s
 have hb':s=true↔9223372036854775808≤v:=by rw [← hb];exact decide_eq_true_iff
 have cmp:∀ (m k:Nat),(Ieee.Datum.order (.number s m (-1074+(k:Int))) (.number false 0 (-1074))==some .lt)=decide (s=true∧m≠0):=by
  intro m k
  have e1:min (-1074+(k:Int)) (-1074)=-1074:=by omega
  show (some (compare (Ieee.signed s m ((-1074+(k:Int))-min (-1074+(k:Int)) (-1074)).toNat) (Ieee.signed false 0 ((-1074:Int)-min (-1074+(k:Int)) (-1074)).toNat))==some .lt)=_;rw [e1,show ((-1074+(k:Int))-(-1074)).toNat=k by omega,show ((-1074:Int)-(-1074)).toNat=0 by rfl];unfold Ieee.signed;rw [if_neg (show ¬(false=true) by decide),show ((0<<<0:Nat):Int)=0 by rfl,Nat.shiftLeft_eq];have hp:=Nat.two_pow_pos k
  cases s with
  | false=>
   have:¬(((m*2^k:Nat):Int)<0):=by omega
   simp only [compare,compareOfLessAndEq];rw [if_neg (show ¬(if false=true then -((m*2^k:Nat):Int) else ((m*2^k:Nat):Int))<0 from this)]
   (repeat' split)<;>first | rfl | (exfalso;simp_all) | simp
  | true=>
   by_cases hm:m=0
   ·subst hm;simp [compare,compareOfLessAndEq]
   ·have h0:0<m*2^k:=Nat.mul_pos (by omega) hp
    have:(-((m*2^k:Nat):Int)<0):=by omega
    simp only [compare,compareOfLessAndEq];rw [if_pos (show (if True then -((m*2^k:Nat):Int) else ((m*2^k:Nat):Int))<0 by rw [if_pos trivial];exact this)];simp [hm]
 by_cases h1:v%9223372036854775808<4503599627370496
 ·rw [if_pos h1]
  refine (cmp (v%9223372036854775808) 0).trans ?_
  apply decide_eq_decide.2;rw [hb'];omega
 ·rw [if_neg h1]
  by_cases h2:v%9223372036854775808<9218868437227405312
  ·rw [if_pos h2]
   refine (cmp (4503599627370496+v%9223372036854775808%4503599627370496) _).trans ?_
   apply decide_eq_decide.2;rw [hb'];omega
  ·rw [if_neg h2]
   by_cases h3:v%9223372036854775808=9218868437227405312
   ·rw [if_pos h3]
    show (some (if s=true then Ordering.lt else .gt)==some .lt)=_
    have:decide (s=true)=decide (9223372036854775808≤v∧v%9223372036854775808≠0∧v%9223372036854775808≤9218868437227405312):=by apply decide_eq_decide.2;rw [hb'];omega
    rw [← this];cases s<;>rfl
   ·rw [if_neg h3]
    show false=_
    symm;rw [decide_eq_false_iff_not];omega
end Go.Proofs.YthjhejgjcdajdaaGreatDoor
set_option linter.unusedVariables false
set_option linter.unusedSimpArgs false
namespace Go.Proofs.YthjhejgjcdajdaaGreatDoor
open Go Go.RowKit Go.Wk
abbrev Pt:=zA8
def zO2 (p:Pt):Bool:=if p.Kind=3 then decide (p.Temp=0) else decide (1≤p.Kind∧p.Kind≤5)&&decide (p.Temp=1∨p.Temp=2)
theorem zbx (p:Pt):zL6 p=some (zO2 p):=by
 unfold zL6 zO2;rw [zB2]
 by_cases h3:p.Kind=3
 ·rw [if_pos h3,if_pos h3]
 ·rw [if_neg h3,if_neg h3]
  by_cases h1:p.Kind=1
  ·simp [h1]
  ·by_cases h2:p.Kind=2
   ·simp [h2]
   ·by_cases h4:p.Kind=4
    ·simp [h4]
    ·by_cases h5:p.Kind=5
     ·simp [h5]
     ·have:¬(1≤p.Kind∧p.Kind≤5):=by omega
      simp [h1,h2,h4,h5,this]
def zMf (p:Pt):Bool:=decide (0≤p.Start∧p.Time≤4503599627370496∧(if p.Kind=3 then p.Start=p.Time else p.Start<p.Time))
theorem zar (p:Pt):zL5 p=some (zMf p):=by
 unfold zL5 zMf
 by_cases h:p.Start<0∨p.Time>4503599627370496
 ·rw [if_pos h];congr 1;symm;rw [decide_eq_false_iff_not];omega
 ·rw [if_neg h]
  split<;>(congr 1;apply decide_eq_decide.2;omega)
def zO8 (h:zA2):Bool:=decide (h.Scale=0∧h.Zero=0∧h.Pos.Offset=0∧h.Neg.Offset=0∧h.Pos.Counts=[]∧h.Neg.Counts=[])
theorem zg (x:UInt64):((x.toNat:Nat):Int)=0↔x=0:=by
 constructor
 ·intro h;apply UInt64.toNat_inj.1;simp;omega
 ·rintro rfl;rfl
theorem zfd (h:zA2) (h1:h.Pos.Counts.length≤1000000) (h2:h.Neg.Counts.length≤1000000):zMg h=some (zO8 h):=by
 unfold zMg zO8;rw [zB2,zAs (by omega) (by omega)];simp only [zg]
 have e:((h.Pos.Counts.length:Int)+(h.Neg.Counts.length:Int)=0)↔h.Pos.Counts=[]∧h.Neg.Counts=[]:=by
  rw [← List.length_eq_zero_iff,← List.length_eq_zero_iff];omega
 simp only [e]
 split
 ·rename_i hh;congr 1;apply decide_eq_decide.2;simp [hh]
 ·rename_i hh;congr 1;symm;rw [decide_eq_false_iff_not];intro hc;exact hh ⟨⟨⟨hc.1,hc.2.1⟩,hc.2.2.1⟩,hc.2.2.2.1⟩
def zVq (p:Pt):Bool:=decide ((p.Kind≠1→p.Int_=0)∧(¬(p.Kind=2∨p.Kind=3∨p.Kind=5)→p.Re=0)∧(p.Kind≠5→p.Im=0)∧(p.Kind≠4→zO8 p.Hist=true)∧0≤p.Flags∧p.Flags≤31)
theorem zgm (p:Pt) (h1:p.Hist.Pos.Counts.length≤1000000) (h2:p.Hist.Neg.Counts.length≤1000000):zNk p=some (zVq p):=by
 unfold zNk zVq;rw [zB2,zfd _ h1 h2,zB2];simp only [zg,ne_eq]
 by_cases a1:¬p.Kind=1∧¬p.Int_=0
 ·rw [if_pos a1,decide_eq_true a1,if_pos rfl];congr 1;symm;rw [decide_eq_false_iff_not];intro hc;exact a1.2 (hc.1 a1.1)
 ·rw [if_neg a1]
  by_cases a2:(¬((p.Kind=2∨p.Kind=3)∨p.Kind=5))∧¬p.Re=0
  ·rw [if_pos a2,decide_eq_true a2,if_pos rfl];congr 1;symm;rw [decide_eq_false_iff_not];intro hc;exact a2.2 (hc.2.1 (by intro h;exact a2.1 (by omega)))
  ·rw [if_neg a2]
   by_cases a3:¬p.Kind=5∧¬p.Im=0
   ·rw [if_pos a3,decide_eq_true a3,if_pos rfl];congr 1;symm;rw [decide_eq_false_iff_not];intro hc;exact a3.2 (hc.2.2.1 a3.1)
   ·rw [if_neg a3]
    have b1:¬p.Kind=1→p.Int_=0:=λh=>Classical.byContradiction λh'=>a1 ⟨h,h'⟩
    have b2:¬(p.Kind=2∨p.Kind=3∨p.Kind=5)→p.Re=0:=λh=>Classical.byContradiction λh'=>a2 ⟨by omega,h'⟩
    have b3:¬p.Kind=5→p.Im=0:=λh=>Classical.byContradiction λh'=>a3 ⟨h,h'⟩
    by_cases a4:p.Kind=4
    ·rw [if_neg (by simpa using a4)]
     simp only [Bool.false_eq_true,if_false]
     by_cases a5:p.Flags<0∨p.Flags>31
     ·rw [decide_eq_true a5,if_pos rfl];congr 1;symm;rw [decide_eq_false_iff_not];omega
     ·rw [decide_eq_false a5];simp only [Bool.false_eq_true,if_false];congr 1;symm;rw [decide_eq_true_iff];exact ⟨b1,b2,b3,λh=>(h a4).elim,by omega,by omega⟩
    ·rw [if_pos a4,zAh]
     cases hb:zO8 p.Hist with
     | false=>simp only [Bool.not_false,if_true];congr 1;symm;rw [decide_eq_false_iff_not];intro hc;have:=hc.2.2.2.1 a4;cases this
     | true=>
      simp only [Bool.not_true,Bool.false_eq_true,if_false]
      by_cases a5:p.Flags<0∨p.Flags>31
      ·rw [decide_eq_true a5,if_pos rfl];congr 1;symm;rw [decide_eq_false_iff_not];omega
      ·rw [decide_eq_false a5];simp only [Bool.false_eq_true,if_false];congr 1;symm;rw [decide_eq_true_iff];exact ⟨b1,b2,b3,λ_=>by first | rfl | trivial,by omega,by omega⟩
end Go.Proofs.YthjhejgjcdajdaaGreatDoor
set_option maxRecDepth 20000
set_option linter.unusedVariables false
set_option linter.unusedSimpArgs false
namespace Go.Proofs.YthjhejgjcdajdaaGreatDoor
open Go Go.RowKit Go.Wk
def pcE (p:Pt):Int:=
 if zL3 p.Name p.Attrs≠0 then zL3 p.Name p.Attrs
 else if zO2 p=false then 14
 else if p.Mono=true∧p.Kind≠1∧p.Kind≠2 then 1
 else if zMf p=false then 1
 else if zVq p=false then 3
 else if (p.Mono=true∧p.Kind=2)∧zag p.Re=false then 11
 else if p.Mono=true∧(p.Int_<0∨ltZ p.Re=true) then 1
 else if p.Kind=4 then hcE p.Hist else 0
theorem zQ9 (p:Pt) (h1:p.Hist.Pos.Counts.length≤1000000) (h2:p.Hist.Neg.Counts.length≤1000000):zF1 p=some (pcE p):=by
 unfold zF1 pcE zPd;rw [zXc,zAh]
 by_cases c:zL3 p.Name p.Attrs≠0
 ·rw [if_pos c,if_pos c]
 rw [if_neg c,if_neg c,zbx,zAh]
 cases hk:zO2 p with
 | false=>rw [if_pos (by rfl),if_pos rfl]
 | true=>
  rw [if_neg (by decide),if_neg (show ¬(true=false) by decide)];simp only [zB2,zAh,zar,zgm p h1 h2,zh1,zep,zM0 p.Hist h1 h2]
  have e1:(p.Mono=true∧p.Kind≠1∧p.Kind≠2)↔(if p.Mono=true then (!decide ((p.Kind=1)∨(p.Kind=2))) else false)=true:=by
   cases p.Mono<;>simp
  cases hm:p.Mono with
  | false=>
   simp only [Bool.false_eq_true,if_false,false_and]
   cases zMf p<;>simp
   cases zVq p<;>simp
   split<;>rfl
  | true=>
   simp only [if_true,true_and]
   by_cases hs:p.Kind=1∨p.Kind=2
   ·rw [decide_eq_true hs]
    simp only [Bool.not_true,Bool.false_eq_true,if_false];rw [if_neg (show ¬(p.Kind≠1∧p.Kind≠2) by omega)]
    cases zMf p<;>simp
    cases zVq p<;>simp
    have h4:¬p.Kind=4:=by omega
    by_cases h2:p.Kind=2
    ·simp only [h2,if_true,true_and]
     cases zag p.Re<;>simp
     by_cases hi:p.Int_<0
     ·simp [hi]
     ·simp [hi];split<;>rfl
    ·simp only [h2,if_false,false_and]
     by_cases hi:p.Int_<0
     ·simp [hi]
     ·simp [hi,h4];split<;>rfl
   ·rw [decide_eq_false hs,if_pos (show p.Kind≠1∧p.Kind≠2 by omega)]
    simp
end Go.Proofs.YthjhejgjcdajdaaGreatDoor
set_option linter.unusedVariables false
set_option linter.unusedSimpArgs false
namespace Go.Proofs.YthjhejgjcdajdaaGreatDoor
open Go Go.RowKit Go.Wk
theorem u64ne (x y:UInt64):(((x.toNat:Nat):Int)≠((y.toNat:Nat):Int))↔x≠y:=by
 constructor
 ·rintro h rfl;exact h rfl
 ·intro h hh;exact h (UInt64.toNat_inj.1 (by omega))
theorem zg0 (x y:UInt64):(((x.toNat:Nat):Int)=((y.toNat:Nat):Int))↔x=y:=by
 constructor
 ·intro hh;exact UInt64.toNat_inj.1 (by omega)
 ·rintro rfl;rfl
theorem zYp {α:Type} [DecidableEq α] (a b:List α) (hl:a.length=b.length) (B:Nat→α→Unit→(Unit→Option Bool)→Option Bool) (J:Unit→Option Bool) (hJ:J ()=some true)
 (hB:∀ i x k,B i x () k=(idx b (i:Int)).bind λy=>if x≠y then some false else k ()):zIo a () B J=some (decide (a=b)):=by
 rw [zMy (λp q _=>some (decide (q=b.drop p.length))) ?_ ?_]
 ·simp
 ·intro s;rw [hJ];simp [hl]
 ·intro p x q _ k hp hk
  rw [hB,hk]
  have:p.length<b.length:=by rw [← hl,← hp];simp
  rw [zSb this,zAh,List.drop_eq_getElem_cons this,List.length_append,List.length_singleton]
  by_cases hx:x=b[p.length]
  ·rw [if_neg (λh=>h hx)];congr 1;apply decide_eq_decide.2;rw [List.cons.injEq];exact ⟨λh=>⟨hx,h⟩,λh=>h.2⟩
  ·rw [if_pos hx,decide_eq_false];rw [List.cons.injEq];exact λh=>hx h.1
theorem zRf (a b:zAa):a=b↔a.Offset=b.Offset∧a.Counts=b.Counts:=by cases a;cases b;simp
theorem zWr (a b:zAa) (h:a.Counts.length≤1000000):zDl a b=some (decide (a=b)):=by
 unfold zDl
 by_cases hc:a.Offset≠b.Offset∨(a.Counts.length:Int)≠(b.Counts.length:Int)
 ·rw [if_pos hc];congr 1;symm;rw [decide_eq_false_iff_not,zRf];rintro ⟨h1,h2⟩;rw [h1,h2] at hc;simp at hc
 ·rw [if_neg hc,zB2,zJa _ _ _ (by omega)]
  have:=zYp a.Counts b.Counts (by omega) (λii xx ss kk=>(some xx).bind λz21=>(idx b.Counts (ii:Int)).bind λz24=>if ((z21).toNat:Int)≠((z24).toNat:Int) then (some false) else (kk ())) (λ_=>some true) rfl λi x k=>by rw [zAh];simp only [u64ne]
  refine this.trans ?_
  congr 1;apply decide_eq_decide.2;rw [zRf];constructor
  ·intro h;exact ⟨by omega,h⟩
  ·exact λh=>h.2
theorem zRk (a b:zA2):a=b↔(a.Scale=b.Scale∧a.Zero=b.Zero)∧a.Pos=b.Pos∧a.Neg=b.Neg:=by cases a;cases b;simp [and_assoc]
theorem zWs (a b:zA2) (h1:a.Pos.Counts.length≤1000000) (h2:a.Neg.Counts.length≤1000000):zEq a b=some (decide (a=b)):=by
 unfold zEq;rw [zWr _ _ h1,zWr _ _ h2];simp only [zg0,zAh,zB2]
 by_cases hc:a.Scale=b.Scale∧a.Zero=b.Zero
 ·rw [if_pos hc]
  by_cases hp:a.Pos=b.Pos
  ·rw [decide_eq_true hp,if_pos rfl];congr 1;apply decide_eq_decide.2;rw [zRk];simp [hc,hp]
  ·rw [decide_eq_false hp];simp only [Bool.false_eq_true,if_false];congr 1;symm;rw [decide_eq_false_iff_not,zRk];exact λh=>hp h.2.1
 ·rw [if_neg hc];simp only [Bool.false_eq_true,if_false];congr 1;symm;rw [decide_eq_false_iff_not,zRk];exact λh=>hc h.1
def zb1 (a b:Pt):Prop:=a.Name=b.Name∧srt a.Attrs=srt b.Attrs∧a.Hist=b.Hist∧a.Kind=b.Kind∧a.Temp=b.Temp∧a.Mono=b.Mono∧a.Start=b.Start∧a.Time=b.Time∧a.Int_=b.Int_∧a.Re=b.Re∧a.Im=b.Im∧a.Flags=b.Flags
instance (a b:Pt):Decidable (zb1 a b):=by unfold zb1;infer_instance
structure Few (x:Pt):Prop where
 a:x.Attrs.length≤20
 p:x.Hist.Pos.Counts.length≤1000000
 n:x.Hist.Neg.Counts.length≤1000000
theorem zbc {a b:Pt} (ha:Few a) (hb:Few b):zEn a b=some (decide (zb1 a b)):=by
 unfold zEn
 have e:∀ l:List Pr,l.length≤20→(srt l).length<4611686018427387904:=λl hl=>by rw [zOb];omega
 have ea:=ha.a;have eb:=hb.a;rw [zB2,zOd _ (by omega),zOd _ (by omega),zAh,zAh,ze4 _ _ (e _ ha.a),zAh,zWs _ _ ha.p ha.n];simp only [zAh,zB2,zg0]
 by_cases h1:a.Name=b.Name
 ·rw [if_neg (λh=>h h1)]
  by_cases h2:srt a.Attrs=srt b.Attrs
  ·rw [decide_eq_true h2]
   simp only [Bool.not_true,Bool.false_eq_true,if_false]
   by_cases h3:(((a.Kind≠b.Kind∨a.Temp≠b.Temp)∨a.Mono≠b.Mono)∨a.Start≠b.Start)∨a.Time≠b.Time
   ·rw [if_pos h3];congr 1;symm;rw [decide_eq_false_iff_not];rintro ⟨_,_,_,q1,q2,q3,q4,q5,_⟩;rcases h3 with (((h | h) | h) | h) | h
    ·exact h q1
    ·exact h q2
    ·exact h q3
    ·exact h q4
    ·exact h q5
   ·rw [if_neg h3]
    simp only [not_or,ne_eq,Decidable.not_not] at h3;obtain ⟨⟨⟨⟨q1,q2⟩,q3⟩,q4⟩,q5⟩:=h3
    by_cases h4:((a.Int_=b.Int_∧a.Re=b.Re)∧a.Im=b.Im)∧a.Flags=b.Flags
    ·rw [if_pos h4]
     obtain ⟨⟨⟨r1,r2⟩,r3⟩,r4⟩:=h4
     congr 1;apply decide_eq_decide.2;simp [zb1,h1,h2,q1,q2,q3,q4,q5,r1,r2,r3,r4]
    ·rw [if_neg h4];congr 1;symm;rw [decide_eq_false_iff_not];rintro ⟨_,_,_,_,_,_,_,_,r1,r2,r3,r4⟩;exact h4 ⟨⟨⟨r1,r2⟩,r3⟩,r4⟩
  ·rw [decide_eq_false h2];simp only [Bool.not_false,if_true];congr 1;symm;rw [decide_eq_false_iff_not];exact λh=>h2 h.2.1
 ·rw [if_pos h1,if_pos trivial];congr 1;symm;rw [decide_eq_false_iff_not];exact λh=>h1 h.1
end Go.Proofs.YthjhejgjcdajdaaGreatDoor
set_option maxRecDepth 20000
set_option linter.unusedVariables false
set_option linter.unusedSimpArgs false
namespace Go.Proofs.YthjhejgjcdajdaaGreatDoor
open Go Go.RowKit Go.Wk
theorem zej (h:zA2) (h1:h.Pos.Counts.length≤1000000) (h2:h.Neg.Counts.length≤1000000):zGi h=some (zO8 h):=by
 unfold zGi zO8;rw [zWs _ _ h1 h2,zAh]
 congr 1
 apply decide_eq_decide.2
 rw [zRk,zRf,zRf]
 constructor
 ·rintro ⟨⟨a,b⟩,⟨c,d⟩,e,f⟩;exact ⟨a,b,c,e,d,f⟩
 ·rintro ⟨a,b,c,e,d,f⟩;exact ⟨⟨a,b⟩,⟨c,d⟩,e,f⟩
theorem zVb (p:Pt) (h1:p.Hist.Pos.Counts.length≤1000000) (h2:p.Hist.Neg.Counts.length≤1000000):zE8 p=some (pcE p):=by
 unfold zE8 pcE;rw [zRv,zAh]
 by_cases c:zL3 p.Name p.Attrs≠0
 ·rw [if_pos c,if_pos c]
 rw [if_neg c,if_neg c];simp only [zB2,zAh,zej p.Hist h1 h2,zea,zb7,zae p.Hist h1 h2]
 cases hk:zO2 p with
 | false=>
  rw [if_pos (show false=false from rfl)]
  by_cases a:p.Kind<1∨p.Kind>5
  ·rw [if_pos a]
  ·rw [if_neg a,if_pos]
   unfold zO2 at hk
   by_cases h3:p.Kind=3
   ·rw [if_pos h3] at hk;exact Or.inl ⟨h3,of_decide_eq_false hk⟩
   ·rw [if_neg h3,decide_eq_true (show 1≤p.Kind∧p.Kind≤5 by omega),Bool.true_and] at hk
    have:=of_decide_eq_false hk;exact Or.inr ⟨⟨h3,λh=>this (Or.inl h)⟩,λh=>this (Or.inr h)⟩
 | true=>
  rw [if_neg (show ¬(true=false) by decide)]
  have k:1≤p.Kind∧p.Kind≤5∧(p.Kind=3→p.Temp=0)∧(p.Kind≠3→p.Temp=1∨p.Temp=2):=by
   unfold zO2 at hk
   by_cases h3:p.Kind=3
   ·rw [if_pos h3] at hk;have:=of_decide_eq_true hk;omega
   ·rw [if_neg h3,Bool.and_eq_true] at hk
    have a:=of_decide_eq_true hk.1;have b:=of_decide_eq_true hk.2;exact ⟨a.1,a.2,λh=>(h3 h).elim,λ_=>b⟩
  rw [if_neg (show ¬(p.Kind<1∨p.Kind>5) by omega),if_neg (show ¬((p.Kind=3∧p.Temp≠0)∨((p.Kind≠3∧p.Temp≠1)∧p.Temp≠2)) by omega)]
  by_cases hs:p.Mono=true∧p.Kind≠1∧p.Kind≠2
  ·rw [if_pos (show (p.Mono=true∧p.Kind≠1)∧p.Kind≠2 from ⟨⟨hs.1,hs.2.1⟩,hs.2.2⟩),if_pos hs]
  rw [if_neg (show ¬((p.Mono=true∧p.Kind≠1)∧p.Kind≠2) from λh=>hs ⟨h.1.1,h.1.2,h.2⟩),if_neg hs]
  have ht:((((p.Start<0)∨(p.Time>4503599627370496))∨((p.Kind=3)∧(p.Start≠p.Time)))∨((p.Kind≠3)∧(p.Start≥p.Time)))↔zMf p=false:=by
   unfold zMf;rw [decide_eq_false_iff_not]
   by_cases h3:p.Kind=3
   ·rw [if_pos h3];omega
   ·rw [if_neg h3];omega
  by_cases t:zMf p=false
  ·rw [if_pos (ht.2 t),if_pos t]
  rw [if_neg (λh=>t (ht.1 h)),if_neg t]
  have ho:zVq p=false↔((((p.Kind≠1)∧(p.Int_≠0))∨((p.Kind≠5)∧(((p.Im).toNat:Int)≠0)))∨(p.Kind≠4∧zO8 p.Hist=false)∨(((((p.Kind=1)∨(p.Kind=4))∧(((p.Re).toNat:Int)≠0))∨(p.Flags<0))∨(p.Flags>31))):=by
   unfold zVq;rw [decide_eq_false_iff_not,ne_eq,ne_eq (((p.Im).toNat:Int)),ne_eq (((p.Re).toNat:Int)),zg,zg]
   have e:zO8 p.Hist=false↔¬zO8 p.Hist=true:=by cases zO8 p.Hist<;>simp
   rw [e]
   by_cases z1:p.Re=0<;>by_cases z2:p.Im=0<;>by_cases z3:zO8 p.Hist=true<;>(simp [z1,z2,z3];try omega)
  by_cases ab:((p.Kind≠1)∧(p.Int_≠0))∨((p.Kind≠5)∧(((p.Im).toNat:Int)≠0))
  ·rw [if_pos (ho.2 (Or.inl ab)),if_pos ab,if_pos (by first | trivial | rfl)]
  rw [if_neg ab]
  by_cases hb:p.Kind≠4∧zO8 p.Hist=false
  ·rw [if_pos (ho.2 (Or.inr (Or.inl hb))),if_pos hb.1,if_pos (by rw [hb.2];rfl)]
  have go:∀ (X:Option Int),(if p.Kind≠4 then (if (!zO8 p.Hist)=true then some 3 else X) else (if false=true then some 3 else X))=X:=by
   intro X
   by_cases k4:p.Kind≠4
   ·have:zO8 p.Hist=true:=by cases h:zO8 p.Hist with | true=>rfl | false=>exact (hb ⟨k4,h⟩).elim
    rw [if_pos k4,if_neg (by rw [this];decide)]
   ·rw [if_neg k4,if_neg (by decide)]
  refine (go _).trans ?_
  by_cases c3:((((p.Kind=1)∨(p.Kind=4))∧(((p.Re).toNat:Int)≠0))∨(p.Flags<0))∨(p.Flags>31)
  ·rw [if_pos (ho.2 (Or.inr (Or.inr c3))),if_pos c3]
  have oT:¬zVq p=false:=λh=>(ho.1 h).elim ab λh=>h.elim hb c3
  rw [if_neg oT,if_neg c3]
  by_cases m2:p.Mono=true∧p.Kind=2
  ·rw [if_pos m2,if_pos m2]
   have i0:¬p.Int_<0:=by omega
   cases hf:zag p.Re with
   | false=>rw [if_pos (by rfl),if_pos (show (p.Mono=true∧p.Kind=2)∧false=false from ⟨m2,rfl⟩)]
   | true=>
    rw [if_neg (by decide),if_neg (show ¬((p.Mono=true∧p.Kind=2)∧true=false) by simp)]
    cases hl:ltZ p.Re with
    | true=>rw [if_pos (Or.inl rfl),if_pos ⟨m2.1,Or.inr rfl⟩]
    | false=>rw [if_neg (show ¬(false=true∨(p.Mono=true∧p.Kind=1)∧p.Int_<0) by simp [i0]),if_neg (show ¬(p.Mono=true∧(p.Int_<0∨false=true)) by simp [i0])];split<;>rfl
  ·rw [if_neg m2,if_neg (show ¬(false=true) by decide),if_neg m2,if_neg (show ¬((p.Mono=true∧p.Kind=2)∧zag p.Re=false) from λh=>m2 h.1)]
   by_cases m1:p.Mono=true∧p.Kind=1
   ·have r0:p.Re=0:=by apply (zg _).1;omega
    have l0:ltZ p.Re=false:=by rw [r0];decide
    rw [l0]
    by_cases hi:p.Int_<0
    ·rw [if_pos (Or.inr ⟨m1,hi⟩),if_pos ⟨m1.1,Or.inl hi⟩]
    ·rw [if_neg (show ¬(false=true∨(p.Mono=true∧p.Kind=1)∧p.Int_<0) by simp [hi]),if_neg (show ¬(p.Mono=true∧(p.Int_<0∨false=true)) by simp [hi])];split<;>rfl
   ·have hm:¬p.Mono=true:=by
     intro hm;exact hs ⟨hm,λh=>m1 ⟨hm,h⟩,λh=>m2 ⟨hm,h⟩⟩
    rw [if_neg (show ¬(false=true∨(p.Mono=true∧p.Kind=1)∧p.Int_<0) by simp [hm]),if_neg (show ¬(p.Mono=true∧(p.Int_<0∨ltZ p.Re=true)) from λh=>hm h.1)];split<;>rfl
structure PtR (p:Pt):Prop where
 c:zL3 p.Name p.Attrs=0
 k:zO2 p=true
 t:zMf p=true
 o:zVq p=true
 h:p.Kind=4→hcE p.Hist=0
theorem zNv {p:Pt} (h:pcE p=0):PtR p:=by
 unfold pcE at h
 by_cases c:zL3 p.Name p.Attrs≠0
 ·rw [if_pos c] at h;exact (c h).elim
 rw [if_neg c] at h
 by_cases k:zO2 p=false
 ·rw [if_pos k] at h;exact absurd h (by decide)
 rw [if_neg k] at h
 by_cases s:p.Mono=true∧p.Kind≠1∧p.Kind≠2
 ·rw [if_pos s] at h;exact absurd h (by decide)
 rw [if_neg s] at h
 by_cases t:zMf p=false
 ·rw [if_pos t] at h;exact absurd h (by decide)
 rw [if_neg t] at h
 by_cases o:zVq p=false
 ·rw [if_pos o] at h;exact absurd h (by decide)
 rw [if_neg o] at h
 by_cases f:(p.Mono=true∧p.Kind=2)∧zag p.Re=false
 ·rw [if_pos f] at h;exact absurd h (by decide)
 rw [if_neg f] at h
 by_cases l:p.Mono=true∧(p.Int_<0∨ltZ p.Re=true)
 ·rw [if_pos l] at h;exact absurd h (by decide)
 rw [if_neg l] at h;refine ⟨Classical.not_not.1 c,by simpa using k,by simpa using t,by simpa using o,λh4=>?_⟩;rw [if_pos h4] at h;exact h
end Go.Proofs.YthjhejgjcdajdaaGreatDoor
set_option maxRecDepth 20000
set_option linter.unusedVariables false
set_option linter.unusedSimpArgs false
namespace Go.Proofs.YthjhejgjcdajdaaGreatDoor
open Go Go.RowKit Go.Wk
theorem zeo (p:Pt):zDj p=some (decide (p.Name.length≤100)&&zV1 p.Attrs&&decide (p.Hist.Pos.Counts.length≤300∧p.Hist.Neg.Counts.length≤300)):=by
 unfold zDj zHj;rw [zB2,zbu]
 have e1:((p.Hist.Pos.Counts.length:Int)≤300)↔p.Hist.Pos.Counts.length≤300:=by omega
 have e2:((p.Hist.Neg.Counts.length:Int)≤300)↔p.Hist.Neg.Counts.length≤300:=by omega
 simp only [zB2,zAh,e1,e2]
 by_cases h1:(p.Name.length:Int)≤100
 ·rw [if_pos h1,decide_eq_true (by omega:p.Name.length≤100)]
  cases zV1 p.Attrs with
  | false=>simp
  | true=>simp
 ·rw [if_neg h1,decide_eq_false (by omega:¬p.Name.length≤100)];simp
theorem zZg {p:Pt} (h:(decide (p.Name.length≤100)&&zV1 p.Attrs&&decide (p.Hist.Pos.Counts.length≤300∧p.Hist.Neg.Counts.length≤300))=true):Few p∧p.Hist.Pos.Counts.length≤300∧p.Hist.Neg.Counts.length≤300:=by
 simp only [Bool.and_eq_true,decide_eq_true_iff] at h;obtain ⟨⟨_,h2⟩,h3,h4⟩:=h;exact ⟨⟨zZf h2,by omega,by omega⟩,h3,h4⟩
theorem zc4 (p:Pt) (h:Few p):zId p=some p:=by
 have:=h.a;have:=h.p;have:=h.n;unfold zId zCl zE1 zDb;rw [zB6 (by simp;omega),zAh,zB6 (by simp;omega),zAh,zB6 (by simp;omega),zAh,zAh]
 rfl
def mono (b:Bool):Nat:=if b=true then 1 else 0
theorem zQh {p:Pt} (h:PtR p):1≤p.Kind∧p.Kind≤5∧0≤p.Temp∧p.Temp≤2∧0≤p.Flags∧p.Flags≤31∧0≤p.Start∧p.Start≤p.Time∧p.Time≤4503599627370496:=by
 obtain ⟨_,hk,ht,ho,_⟩:=h;unfold zO2 at hk;unfold zMf at ht;unfold zVq at ho;rw [decide_eq_true_iff] at ht ho;obtain ⟨t1,t2,t3⟩:=ht;obtain ⟨_,_,_,_,o1,o2⟩:=ho
 by_cases h3:p.Kind=3
 ·rw [if_pos h3] at hk t3
  rw [decide_eq_true_iff] at hk
  omega
 ·rw [if_neg h3] at hk t3
  simp only [Bool.and_eq_true,decide_eq_true_iff] at hk
  omega
def zMe (p:Pt):List UInt8:=(p.Name++zKu (srt p.Attrs))++([32]++[UInt8.ofNat (48+p.Kind.toNat),UInt8.ofNat (48+p.Temp.toNat),UInt8.ofNat (48+mono p.Mono)])
theorem zOr {x:Int} (h0:0≤x) (h1:x≤100):toU8 (W64 (48+x))=UInt8.ofNat (48+x.toNat):=by
 rw [zAs (by omega) (by omega),show 48+x=((48+x.toNat:Nat):Int) by omega,zOq,Nat.mod_eq_of_lt (by omega)]
def zde (p:Pt):List UInt8×Int:=if pcE p=0 then (zMe p,0) else ([],pcE p)
theorem zdd (p:Pt) (h1:p.Hist.Pos.Counts.length≤1000000) (h2:p.Hist.Neg.Counts.length≤1000000):zLl p=some (zde p):=by
 unfold zLl zde;rw [zQ9 p h1 h2,zAh]
 by_cases h0:pcE p=0
 ·rw [if_neg (by simpa using h0),if_pos h0]
  have hp:=zNv h0;obtain ⟨k1,k2,t1,t2,f1,f2,s1,s2,s3⟩:=zQh hp;have htl:=zRd hp.c
  have hT:zKo p.Name p.Attrs=some (p.Name++zKu (srt p.Attrs),0):=by rw [zdw,zfp,if_pos hp.c]
  have hbit:zNl p.Mono=some (mono p.Mono:Int):=by unfold zNl mono;cases p.Mono<;>rfl
  have hm1:mono p.Mono≤1:=by unfold mono;split<;>omega
  rw [hT,zAh];dsimp only;rw [zH6 (by simp only [List.length_append,List.length_cons,List.length_nil] at htl ⊢;omega),zAh,hbit,zAh,zH6 (by simp only [List.length_append,List.length_cons,List.length_nil] at htl ⊢;omega),zAh];rw [zOr (by omega) (by omega),zOr (by omega) (by omega),zOr (by omega) (by omega),Int.toNat_natCast];unfold zMe;simp only [List.append_assoc]
 ·rw [if_pos h0,if_neg h0]
theorem zZ (p:Pt) (h1:p.Hist.Pos.Counts.length≤1000000) (h2:p.Hist.Neg.Counts.length≤1000000):zF6 p=some (zde p):=by
 unfold zF6 zde zE7;rw [zVb p h1 h2,zAh]
 by_cases h0:pcE p=0
 ·rw [if_neg (by simpa using h0),if_pos h0]
  have hp:=zNv h0;obtain ⟨k1,k2,t1,t2,f1,f2,s1,s2,s3⟩:=zQh hp;have htl:=zRd hp.c
  have hT:zEo p.Name p.Attrs=some (p.Name++zKu (srt p.Attrs),0):=by rw [zXn,zfp,if_pos hp.c]
  have hbit:zGv p.Mono=some (mono p.Mono:Int):=by unfold zGv mono;cases p.Mono<;>rfl
  have hm1:mono p.Mono≤1:=by unfold mono;split<;>omega
  rw [hT,zAh];dsimp only;rw [zH6 (by simp only [List.length_append,List.length_cons,List.length_nil] at htl ⊢;omega),zAh,zAh,zH6 (by simp only [List.length_append,List.length_cons,List.length_nil] at htl ⊢;omega),zAh,zAh,zH6 (by simp only [List.length_append,List.length_cons,List.length_nil] at htl ⊢;omega),zAh,hbit,zAh,zAh,zH6 (by simp only [List.length_append,List.length_cons,List.length_nil] at htl ⊢;omega),zAh];rw [zOr (by omega) (by omega),zOr (by omega) (by omega),zOr (by omega) (by omega),Int.toNat_natCast];unfold zMe;simp only [List.append_assoc];rfl
 ·rw [if_pos h0,if_neg h0]
theorem zf4 {a b:Nat} (ha:a≤100) (hb:b≤100):UInt8.ofNat (48+a)=UInt8.ofNat (48+b)↔a=b:=by
 constructor
 ·intro h
  have:=congrArg UInt8.toNat h;simp only [UInt8.toNat_ofNat'] at this
  omega
 ·rintro rfl;rfl
theorem zes {a b:Pt} (ha:PtR a) (hb:PtR b):zMe a=zMe b↔a.Name=b.Name∧a.Kind=b.Kind∧a.Temp=b.Temp∧a.Mono=b.Mono∧srt a.Attrs=srt b.Attrs:=by
 obtain ⟨k1,k2,t1,t2,_⟩:=zQh ha;obtain ⟨k3,k4,t3,t4,_⟩:=zQh hb
 have hm:∀ x:Bool,mono x≤1:=λx=>by unfold mono;split<;>omega
 have hma:=hm a.Mono;have hmb:=hm b.Mono;unfold zMe
 constructor
 ·intro h
  obtain ⟨e1,e2⟩:=List.append_inj' h rfl;simp only [List.cons_append,List.nil_append,List.cons.injEq,and_true,true_and] at e2;obtain ⟨d1,d2,d3⟩:=e2;rw [zf4 (by omega) (by omega)] at d1 d2 d3;obtain ⟨n1,n2⟩:=(zas ha.c hb.c).1 e1;refine ⟨n1,by omega,by omega,?_,n2⟩;unfold mono at d3
  cases h1:a.Mono<;>cases h2:b.Mono<;>simp [h1,h2] at d3<;>rfl
 ·rintro ⟨n1,n2,n3,n4,n5⟩
  rw [n1,n2,n3,n4,n5]
end Go.Proofs.YthjhejgjcdajdaaGreatDoor
set_option maxRecDepth 20000
set_option linter.unusedVariables false
set_option linter.unusedSimpArgs false
namespace Go.Proofs.YthjhejgjcdajdaaGreatDoor
open Go Go.RowKit Go.Wk
abbrev zPt:Pt:=⟨[],[],0,0,false,0,0,0,0,0,h00,0⟩
def sPt (nm:Txt) (l:List Pr) (a b c:UInt8):Pt:=⟨nm,l,W64 ((a.toNat:Int)-48),W64 ((b.toNat:Int)-48),decide (((c).toNat:Int)=49),if W64 ((a.toNat:Int)-48)=3 then 1 else 0,1,0,0,0,h00,0⟩
def oPt (nm:Txt) (l:List Pr) (a b c:UInt8):Pt:=⟨nm,l,W64 ((a.toNat:Int)-48),W64 ((b.toNat:Int)-48),decide (((c).toNat:Int)=49),0,0,0,0,0,h00,0⟩
def zhd (s:Txt):Pt×Int:=
 if (((zHo 32 s).2.2=true∧(zHo 32 s).2.1.length=3)∧(zSt (zHo 32 s).1).2.2.2=0)∧((zHo 32 s).2.1.getD 2 0=48∨(zHo 32 s).2.1.getD 2 0=49) ∧
  pcE (sPt (zSt (zHo 32 s).1).1 (zSt (zHo 32 s).1).2.1 ((zHo 32 s).2.1.getD 0 0) ((zHo 32 s).2.1.getD 1 0) ((zHo 32 s).2.1.getD 2 0))=0
 then (oPt (zSt (zHo 32 s).1).1 (zSt (zHo 32 s).1).2.1 ((zHo 32 s).2.1.getD 0 0) ((zHo 32 s).2.1.getD 1 0) ((zHo 32 s).2.1.getD 2 0),0) else (zPt,3)
theorem zh7 (c:UInt8) (k:Nat) (hk:k<256):((c.toNat:Nat):Int)=(k:Int)↔c=UInt8.ofNat k:=by
 constructor
 ·intro h;apply UInt8.toNat_inj.1;rw [UInt8.toNat_ofNat'];omega
 ·rintro rfl;rw [UInt8.toNat_ofNat'];omega
theorem three {l:List UInt8} (h:l.length=3):∃ a b c,l=[a,b,c]:=by
 match l,h with
 | [a,b,c],_=>exact ⟨a,b,c,rfl⟩
theorem zYn (s:Txt) (hs:s.length≤10000):zIz s=some (zhd s):=by
 unfold zIz zhd;have hl:=zRn (c:=32) (s:=s);rw [zPm s 32 (by omega),zAh];generalize hc:zHo 32 s=t at *;obtain ⟨p,q,f⟩:=t;dsimp only at hl ⊢;rw [zbi p (by omega),zAh];generalize zSt p=r;obtain ⟨nm,l,at_,e⟩:=r;dsimp only;simp only [zB2]
 by_cases h:(f=true∧q.length=3)∧e=0
 ·obtain ⟨⟨hf,hq⟩,he⟩:=h
  obtain ⟨a,b,c,rfl⟩:=three hq;subst hf he;rw [if_neg (show ¬(((!true)=true∨(0:Int)≠0)∨(([a,b,c]:List UInt8).length:Int)≠3) by simp),show idx [a,b,c] 2=some c from rfl,zAh,zAh,show idx [a,b,c] 0=some a from rfl,zAh,show idx [a,b,c] 1=some b from rfl,zAh,zAh];rw [show ([a,b,c]:List UInt8).getD 0 0=a from rfl,show ([a,b,c]:List UInt8).getD 1 0=b from rfl,show ([a,b,c]:List UInt8).getD 2 0=c from rfl]
  have fin:(if W64 ((a.toNat:Int)-48)=3 then (zF1 ⟨nm,l,W64 ((a.toNat:Int)-48),W64 ((b.toNat:Int)-48),decide (((c).toNat:Int)=49),1,1,0,0,0,h00,0⟩).bind λp54=>if p54≠0 then some (zPt,(3:Int)) else some (oPt nm l a b c,0) else (zF1 ⟨nm,l,W64 ((a.toNat:Int)-48),W64 ((b.toNat:Int)-48),decide (((c).toNat:Int)=49),0,1,0,0,0,h00,0⟩).bind λp54=>if p54≠0 then some (zPt,(3:Int)) else some (oPt nm l a b c,0))=some (if pcE (sPt nm l a b c)=0 then (oPt nm l a b c,0) else (zPt,3)):=by
   have e1:pcE (sPt nm l a b c)=pcE ⟨nm,l,W64 ((a.toNat:Int)-48),W64 ((b.toNat:Int)-48),decide (((c).toNat:Int)=49),if W64 ((a.toNat:Int)-48)=3 then 1 else 0,1,0,0,0,h00,0⟩:=rfl;rw [e1]
   by_cases h3:W64 ((a.toNat:Int)-48)=3
   ·rw [if_pos h3,if_pos h3,zQ9 _ (by simp) (by simp),zAh]
    by_cases hh:pcE ⟨nm,l,W64 ((a.toNat:Int)-48),W64 ((b.toNat:Int)-48),decide (((c).toNat:Int)=49),1,1,0,0,0,h00,0⟩=0
    ·rw [if_neg (λk=>k hh),if_pos hh]
    ·rw [if_pos hh,if_neg hh]
   ·rw [if_neg h3,if_neg h3,zQ9 _ (by simp) (by simp),zAh]
    by_cases hh:pcE ⟨nm,l,W64 ((a.toNat:Int)-48),W64 ((b.toNat:Int)-48),decide (((c).toNat:Int)=49),0,1,0,0,0,h00,0⟩=0
    ·rw [if_neg (λk=>k hh),if_pos hh]
    ·rw [if_pos hh,if_neg hh]
  by_cases h48:c=48
  ·rw [if_neg (show ¬((c.toNat:Int)≠48) by rw [h48];decide),if_neg (show ¬(false=true) by decide)]
   refine fin.trans ?_
   congr 1
   exact zX0 ⟨λh=>⟨⟨⟨rfl,rfl⟩,rfl⟩,Or.inl h48,h⟩,λh=>h.2.2⟩ (λ_=>rfl) (λ_=>rfl)
  ·rw [if_pos (show (c.toNat:Int)≠48 from λh=>h48 ((zh7 c 48 (by omega)).1 h))]
   by_cases h49:c=49
   ·rw [if_neg (by rw [h49];decide)]
    refine fin.trans ?_
    congr 1
    exact zX0 ⟨λh=>⟨⟨⟨rfl,rfl⟩,rfl⟩,Or.inr h49,h⟩,λh=>h.2.2⟩ (λ_=>rfl) (λ_=>rfl)
   ·rw [if_pos (decide_eq_true (show (c.toNat:Int)≠49 from λh=>h49 ((zh7 c 49 (by omega)).1 h))),if_neg (λh=>h.2.1.elim h48 h49)]
 ·rw [if_neg (c:=((f=true∧q.length=3)∧e=0)∧_) (λk=>h k.1),if_pos,if_pos (by first | trivial | rfl)]
  cases f with
  | false=>exact Or.inl (Or.inl rfl)
  | true=>
   by_cases hq:q.length=3
   ·exact Or.inl (Or.inr λhe=>h ⟨⟨rfl,hq⟩,he⟩)
   ·exact Or.inr (by omega)
end Go.Proofs.YthjhejgjcdajdaaGreatDoor
set_option maxRecDepth 20000
set_option pp.deepTerms true
set_option linter.unusedVariables false
set_option linter.unusedSimpArgs false
namespace Go.Proofs.YthjhejgjcdajdaaGreatDoor
open Go Go.RowKit Go.Wk
end Go.Proofs.YthjhejgjcdajdaaGreatDoor
set_option maxRecDepth 20000
set_option linter.unusedVariables false
set_option linter.unusedSimpArgs false
namespace Go.Proofs.YthjhejgjcdajdaaGreatDoor
open Go Go.RowKit Go.Wk
theorem zce:zHk=some true:=by decide +kernel
theorem zZu:∀ {l:List Pr},l.Pairwise (λa b=>Op.bytesLess a.Key b.Key=false)→zh2 l
 | [],_=>trivial
 | [_],_=>trivial
 | a::b::l,h=>by
  have h':=List.pairwise_cons.1 h;exact ⟨h'.1 b (by simp),zZu h'.2⟩
theorem ze (l:List Pr):srt (srt l)=srt l:=zg9 (zZu (by rw [List.pairwise_reverse];exact zcx l))
theorem zSj {name:Txt} {l:List Pr} (h:zL3 name l=0):zL3 name (srt l)=0:=by
 obtain ⟨h1,h2,h3⟩:=zOz h;unfold zL3;rw [if_pos h1,if_neg (by rw [zOb];omega)];exact zW0 h3
theorem zZb {s:Txt} (h:zJz s=true):∀ x∈s,x≠32:=by
 intro x hx;unfold zJz at h
 match s,h,hx with
 | c::t,h,hx=>
  simp only [Bool.and_eq_true,List.all_eq_true] at h;rintro rfl
  rcases List.mem_cons.1 hx with e|e
  ·have:=h.2.1;rw [← e] at this;exact absurd this (by decide)
  ·exact absurd (h.2.2 _ e) (by decide)
theorem zfy {s:Txt} (h:zSr s=true):∀ x∈s,x≠32:=by
 intro x hx;unfold zSr at h;simp only [Bool.and_eq_true,List.all_eq_true] at h;rintro rfl;exact absurd (h.2 _ hx) (by decide)
theorem zdx {name:Txt} {l:List Pr} (h:zL3 name l=0):∀ x∈name++zKu (srt l),x≠32:=by
 obtain ⟨h1,h2,h3⟩:=zOz (zSj h);have hk:=zXb _ _ h3;intro x hx
 rcases List.mem_append.1 hx with e|e
 ·exact zZb h1 x e
 ·unfold zKu at e
  obtain ⟨a,ha,hxa⟩:=List.mem_flatMap.1 e;obtain ⟨k1,k2,_⟩:=hk a ha;unfold at1 at hxa;simp only [List.mem_append,List.mem_singleton] at hxa
  rcases hxa with ((e|e)|e)|e
  ·rw [e];decide
  ·exact zZb k1 x e
  ·rw [e];decide
  ·exact zfy k2 x e
theorem zSg:∀ (p q:Txt),(∀ x∈p,x≠32)→zHo 32 (p++32::q)=(p,q,true)
 | [],q,_=>by rw [List.nil_append,zHo,if_pos rfl]
 | c::p,q,h=>by
  rw [List.cons_append,zHo,if_neg (h c (by simp)),zSg p q (λx hx=>h x (by simp [hx]))]
theorem zZp:hcE h00=0:=by decide
theorem zXq {p:Pt} (h:PtR p) (st:Int) (hst:st=if p.Kind=3 then 1 else 0) (hm:p.Mono=true→p.Kind=1∨p.Kind=2):pcE ⟨p.Name,srt p.Attrs,p.Kind,p.Temp,p.Mono,st,1,0,0,0,h00,0⟩=0:=by
 have hk:=h.k;unfold pcE
 have f0:zag 0=true:=by decide
 have l0:ltZ 0=false:=by decide
 have b0:zO8 h00=true:=by decide
 have hkb:zO2 ⟨p.Name,srt p.Attrs,p.Kind,p.Temp,p.Mono,st,1,0,0,0,h00,0⟩=true:=hk
 have htb:zMf ⟨p.Name,srt p.Attrs,p.Kind,p.Temp,p.Mono,st,1,0,0,0,h00,0⟩=true:=by
  unfold zMf;rw [decide_eq_true_iff];dsimp only
  by_cases h3:p.Kind=3
  ·rw [if_pos h3] at hst ⊢;omega
  ·rw [if_neg h3] at hst ⊢;omega
 have hob:zVq ⟨p.Name,srt p.Attrs,p.Kind,p.Temp,p.Mono,st,1,0,0,0,h00,0⟩=true:=by
  unfold zVq;rw [decide_eq_true_iff];exact ⟨λ_=>rfl,λ_=>rfl,λ_=>rfl,λ_=>b0,show (0:Int)≤0 by decide,show (0:Int)≤31 by decide⟩
 rw [hkb,htb,hob];dsimp only;rw [zSj h.c,if_neg (by decide),if_neg (by decide),if_neg (λk=>by have:=hm k.1;omega),if_neg (by decide),if_neg (by decide),f0,if_neg (by simp),l0,if_neg (by simp),zZp]
 split<;>rfl
theorem zbg {p:Pt} (h:pcE p=0):p.Mono=true→p.Kind=1∨p.Kind=2:=by
 intro hm;unfold pcE at h
 by_cases c:zL3 p.Name p.Attrs≠0
 ·rw [if_pos c] at h;exact (c h).elim
 rw [if_neg c] at h
 by_cases k:zO2 p=false
 ·rw [if_pos k] at h;exact absurd h (by decide)
 rw [if_neg k] at h
 by_cases s:p.Mono=true∧p.Kind≠1∧p.Kind≠2
 ·rw [if_pos s] at h;exact absurd h (by decide)
 by_cases a:p.Kind=1
 ·exact Or.inl a
 ·by_cases b:p.Kind=2
  ·exact Or.inr b
  ·exact (s ⟨hm,a,b⟩).elim
theorem zX7 {k:Nat} (h:k≤9):W64 (((UInt8.ofNat (48+k)).toNat:Int)-48)=(k:Int):=by
 rw [UInt8.toNat_ofNat',zAs (by omega) (by omega)];omega
theorem zb {p:Pt} (h:pcE p=0):zhd (zMe p)=(⟨p.Name,srt p.Attrs,p.Kind,p.Temp,p.Mono,0,0,0,0,0,h00,0⟩,0):=by
 have r:=zNv h;obtain ⟨k1,k2,t1,t2,_⟩:=zQh r
 have hc:zHo 32 (zMe p)=(p.Name++zKu (srt p.Attrs),[UInt8.ofNat (48+p.Kind.toNat),UInt8.ofNat (48+p.Temp.toNat),UInt8.ofNat (48+mono p.Mono)],true):=by
  unfold zMe;exact zSg _ _ (zdx r.c)
 have hd:decide (((UInt8.ofNat (48+mono p.Mono)).toNat:Int)=49)=p.Mono:=by unfold mono;cases p.Mono<;>decide
 have e1:W64 (((UInt8.ofNat (48+p.Kind.toNat)).toNat:Int)-48)=p.Kind:=by rw [zX7 (by omega)];omega
 have e2:W64 (((UInt8.ofNat (48+p.Temp.toNat)).toNat:Int)-48)=p.Temp:=by rw [zX7 (by omega)];omega
 unfold zhd;rw [hc];dsimp only;rw [zQi r.c];dsimp only;rw [show ∀ a b c:UInt8,([a,b,c]:List UInt8).getD 0 0=a from λ_ _ _=>rfl,show ∀ a b c:UInt8,([a,b,c]:List UInt8).getD 1 0=b from λ_ _ _=>rfl,show ∀ a b c:UInt8,([a,b,c]:List UInt8).getD 2 0=c from λ_ _ _=>rfl];unfold sPt oPt;rw [e1,e2,hd,if_pos];refine ⟨⟨⟨rfl,rfl⟩,rfl⟩,?_,zXq r _ rfl (zbg h)⟩;unfold mono;cases p.Mono
 ·exact Or.inl rfl
 ·exact Or.inr rfl
end Go.Proofs.YthjhejgjcdajdaaGreatDoor
set_option maxRecDepth 20000
set_option linter.unusedVariables false
set_option linter.unusedSimpArgs false
namespace Go.Proofs.YthjhejgjcdajdaaGreatDoor
open Go Go.RowKit Go.Wk
theorem zcl (x k:Nat) (hk:k≤8) (hx:x<256):x&&&(255*2^k%256)=x/2^k*2^k:=by
 have h:∀ k,k≤8→∀ x,x<256→x&&&(255*2^k%256)=x/2^k*2^k:=by decide +kernel
 exact h k hk x hx
theorem zca {B K:List Bool} (hB:B.length≤8):zJ ((B++K).take 8)&&&shl8 255 (8-B.length)=zJ B:=by
 apply UInt8.toNat_inj.1
 have hb:=(zJ ((B++K).take 8)).toNat_lt
 have e:(B++K).take 8=B++K.take (8-B.length):=by rw [List.take_append,List.take_of_length_le hB]
 rw [UInt8.toNat_and,zWj,show (255:UInt8).toNat=255 from rfl,zcl _ _ (by omega) (by omega),zM hB,zM (by simp;omega),e,zJ0];have hk:=zI2 (K.take (8-B.length))
 have hl:(K.take (8-B.length)).length≤8-B.length:=by simp;omega
 generalize K.take (8-B.length)=T at hk hl;rw [List.length_append];have hp:=Nat.two_pow_pos (8-B.length)
 have e1:2^T.length*2^(8-(B.length+T.length))=2^(8-B.length):=by rw [← Nat.pow_add];congr 1;omega
 have h2:numB T*2^(8-(B.length+T.length))<2^(8-B.length):=by rw [← e1];exact Nat.mul_lt_mul_of_pos_right hk (Nat.two_pow_pos _)
 congr 1
 rw [Nat.add_mul,Nat.mul_assoc,e1,Nat.add_comm,Nat.add_mul_div_right _ _ hp,Nat.div_eq_of_lt h2,Nat.zero_add]
theorem zds {M K:List Bool} (h:(M++K).length≤8000000000):zI0 (WrO (M++K)) (M.length:Int)=some (true,WrO M):=by
 rw [List.length_append] at h;unfold zI0;simp only [zB2];rw [if_neg (by omega),decide_eq_false (by simp only [List.length_append];omega),if_neg (by decide),zAs (by omega) (by omega),show ((M.length:Int)+7)=((M.length+7:Nat):Int) by omega,show (8:Int)=((8:Nat):Int) from rfl,zNh (by decide) (by omega),zAh,zRm (by omega) (by omega) (by rw [zF4,List.length_append];omega),zAh,zPp (by decide),zAh,Int.toNat_natCast];obtain ⟨q,A,B,hAB,hA,hB,hBl,hq⟩:=cut8 M
 have hl:M.length=8*q+B.length:=by rw [hAB,List.length_append,hA]
 have hlen:(zDn A).length=q:=by rw [zF4,hA];omega
 have ep:zDn (M++K)=zDn A++zDn (B++K):=by rw [hAB,List.append_assoc,zOf q A _ hA]
 by_cases h0:B.length=0
 ·obtain rfl:B=[]:=List.eq_nil_of_length_eq_zero h0
  have hMA:M=A:=by rw [hAB,List.append_nil]
  rw [if_neg (by omega),ep,show (M.length+7)/8=q by omega,show ((0:Int).toNat)=0 from rfl,List.drop_zero,List.take_append_of_le_length (by omega),List.take_of_length_le (by omega),hMA]
 ·have hne:B++K≠[]:=by intro hh;exact h0 (by rw [(List.append_eq_nil_iff.1 hh).1];rfl)
  rw [if_pos (by omega),show ((0:Int).toNat)=0 from rfl,List.drop_zero,show (M.length+7)/8=q+1 by omega,ep,zOu hne,List.take_append,hlen,List.take_of_length_le (by omega),show q+1-q=1 by omega,List.take_succ_cons,List.take_zero]
  have e1:W64 (((zDn A++[zJ ((B++K).take 8)]).length:Int)-1)=((zDn A).length:Int):=by rw [List.length_append,hlen];simp only [List.length_cons,List.length_nil];rw [zAs (by omega) (by omega)];omega
  have e3:(zAf (W64 (((8:Nat):Int)-((M.length%8:Nat):Int)))).toNat=8-B.length:=by rw [zAs (by omega) (by omega),show ((8:Nat):Int)-((M.length%8:Nat):Int)=((8-B.length:Nat):Int) by omega,zCk (by omega)]
  rw [e1,zFy,zAh,zAh,e3,zca (by omega),zUm]
  have:zDn M=zDn A++[zJ B]:=by rw [hAB,zOf q A _ hA,zLh (l:=B) (by intro hh;exact h0 (by rw [hh];rfl)) (by omega)]
  rw [WrO,this]
theorem zY7 {M:List Bool} (h:M.length≤8000000000):zH5 (WrO M)=some (zDn M):=by
 unfold zH5 zEe;rw [zB6 (by rw [zF4];simp only [List.length_nil];omega),zAh,List.nil_append]
end Go.Proofs.YthjhejgjcdajdaaGreatDoor
set_option maxRecDepth 20000
namespace Go.Proofs.YthjhejgjcdajdaaGreatDoor
open Go Go.RowKit Go.Wk
abbrev It:=zAc
structure Acc where
 O:List Int
 T:List Int
 S:List Int
 I:List Int
 A:List UInt64
 B:List UInt64
 H:List zA2
abbrev zfk:Acc:=⟨[],[],[],[],[],[],[]⟩
def spn (p:Pt):Int:=W64 (p.Time-p.Start)
def zM1 (a:Acc) (x:It):Acc:=
 ⟨a.O++[x.Ord],a.T++[x.Point.Time],if x.Point.Kind=3 then a.S else a.S++[spn x.Point],if x.Point.Kind=1 then a.I++[x.Point.Int_] else a.I,
  if x.Point.Kind=1∨x.Point.Kind=4 then a.A else a.A++[x.Point.Re],if x.Point.Kind=5 then a.B++[x.Point.Im] else a.B,if x.Point.Kind=4 then a.H++[x.Point.Hist] else a.H⟩
abbrev flB (A:List UInt64) (v:UInt64):List Bool:=(xB A.length (zL2 A) v (zTf A)).1
def zNg (a:Acc) (p:Pt):List Bool:=
 if p.Kind=1 then zOg (zHe a.I) p.Int_ else if p.Kind=4 then hB a.H.length (zO7 a.H) p.Hist
 else if p.Kind=5 then flB a.A p.Re++flB a.B p.Im else flB a.A p.Re
def zXi (a:Acc) (p:Pt):List Bool:=if p.Kind=3 then [] else zOg (zHe a.S) (spn p)
def itB (a:Acc) (x:It):List Bool:=zOg (zHe a.O) x.Ord++(zOg (zHe a.T) x.Point.Time++(zXi a x.Point++(smB x.Point.Flags.toNat++zNg a x.Point)))
def zW6 (l:List It):Acc:=l.foldl zM1 zfk
theorem zSn (l:List It) (x:It):zW6 (l++[x])=zM1 (zW6 l) x:=by unfold zW6;rw [List.foldl_append];rfl
def zSq:Acc→List It→List Bool
 | _,[]=>[]
 | a,x::t=>itB a x++zSq (zM1 a x) t
abbrev zE4 (l:List It):List Bool:=zSq zfk l
theorem zYs (x:It) (l:List It):∀ a:Acc,zSq a (l++[x])=zSq a l++itB (l.foldl zM1 a) x:=by
 induction l with
 | nil=>intro a;rw [List.nil_append,zSq,zSq,zSq,List.append_nil,List.nil_append,List.foldl_nil]
 | cons y t ih=>intro a;rw [List.cons_append,zSq,ih,zSq,List.append_assoc,List.foldl_cons]
theorem zP (l:List It) (x:It):zE4 (l++[x])=zE4 l++itB (zW6 l) x:=zYs x l zfk
structure ItR (x:It):Prop where
 k0:1≤x.Point.Kind
 k1:x.Point.Kind≤5
 o:okI x.Ord
 t:okI x.Point.Time
 i:okI x.Point.Int_
 f0:0≤x.Point.Flags
 f1:x.Point.Flags≤31
 h:hcE x.Point.Hist=0
structure zaf (n:Nat) (a:Acc):Prop where
 o:a.O.length≤n∧∀ x∈a.O,okI x
 t:a.T.length≤n∧∀ x∈a.T,okI x
 s:a.S.length≤n∧∀ x∈a.S,okI x
 i:a.I.length≤n∧∀ x∈a.I,okI x
 re:a.A.length≤n
 im:a.B.length≤n
 h:a.H.length≤n∧∀ x∈a.H,HOk x
theorem zbl (z:Int):okI (W64 z):=by
 unfold okI W64 IntKind.wrap;simp [IntKind.signed,IntKind.bits]
 split<;>omega
theorem za9:zaf 0 zfk:=⟨⟨by simp,by simp⟩,⟨by simp,by simp⟩,⟨by simp,by simp⟩,⟨by simp,by simp⟩,by simp,by simp,⟨by simp,by simp⟩⟩
theorem zRp {α:Type} {P:α→Prop} {l:List α} {n:Nat} {x:α} (h:l.length≤n∧∀ y∈l,P y) (hx:P x):(l++[x]).length≤n+1∧∀ y∈l++[x],P y:=
 ⟨by simp;exact h.1,λy hy=>(List.mem_append.1 hy).elim (h.2 y) (λe=>by rw [List.mem_singleton.1 e];exact hx)⟩
theorem zdt {α:Type} {P:α→Prop} {l:List α} {n:Nat} (h:l.length≤n∧∀ y∈l,P y):l.length≤n+1∧∀ y∈l,P y:=⟨Nat.le_succ_of_le h.1,h.2⟩
theorem zaa {n:Nat} {a:Acc} {x:It} (h:zaf n a) (hx:ItR x):zaf (n+1) (zM1 a x):=by
 refine ⟨zRp h.o hx.o,zRp h.t hx.t,?_,?_,?_,?_,?_⟩<;>unfold zM1<;>dsimp only<;>split
 ·exact zdt h.s
 ·exact zRp h.s (zbl _)
 ·exact zRp h.i hx.i
 ·exact zdt h.i
 ·exact Nat.le_succ_of_le h.re
 ·simp;exact h.re
 ·simp;exact h.im
 ·exact Nat.le_succ_of_le h.im
 ·exact zRp h.h (zQ3 hx.h)
 ·exact zdt h.h
theorem zW5 {l:List It} (h:∀ x∈l,ItR x):zaf l.length (zW6 l):=by
 have key:∀ (l:List It) (n:Nat) (a:Acc),zaf n a→(∀ x∈l,ItR x)→zaf (n+l.length) (l.foldl zM1 a):=by
  intro l
  induction l with
  | nil=>intro n a ha _;exact ha
  | cons x t ih=>
   intro n a ha hl;have:=ih (n+1) _ (zaa ha (hl x (by simp))) (λy hy=>hl y (by simp [hy]));rw [show n+1+t.length=n+(x::t).length by simp;omega] at this;exact this
 have:=key l 0 zfk za9 h;rwa [Nat.zero_add] at this
theorem zdf {n:Nat} {a:Acc} {x:It} (h:zaf n a) (hx:ItR x):(itB a x).length≤30300:=by
 have h1:=zKv (zHe a.O) x.Ord;have h2:=zKv (zHe a.T) x.Point.Time
 have h3:(zXi a x.Point).length≤69:=by
  unfold zXi;split
  ·simp
  ·exact zKv _ _
 have h4:=zMv x.Point.Flags.toNat
 have h5:(zNg a x.Point).length≤30000:=by
  have e1:=(zY4 a.A.length (zL2 a.A) x.Point.Re (zKc a.A)).1;have e2:=(zY4 a.B.length (zL2 a.B) x.Point.Im (zKc a.B)).1;have e3:=(zgu (n:=a.H.length) (last:=zO7 a.H) (zQ3 hx.h)).1;have e4:=zKv (zHe a.I) x.Point.Int_;unfold zNg flB
  (repeat' split)<;>(try rw [List.length_append])<;>omega
 unfold itB;simp only [List.length_append];omega
theorem zQ7 {l:List It} (h:∀ x∈l,ItR x):(zE4 l).length≤30300*l.length:=by
 have key:∀ (l:List It) (n:Nat) (a:Acc),zaf n a→(∀ x∈l,ItR x)→(zSq a l).length≤30300*l.length:=by
  intro l
  induction l with
  | nil=>intro n a _ _;simp [zSq]
  | cons x t ih=>
   intro n a ha hl;have h1:=zdf ha (hl x (by simp));have h2:=ih (n+1) _ (zaa ha (hl x (by simp))) (λy hy=>hl y (by simp [hy]));rw [zSq,List.length_append,List.length_cons];omega
 exact key l 0 zfk za9 h
abbrev xrA (A:List UInt64):zAj:=⟨(A.length:Int),zL2 A,zPk (zTf A)⟩
abbrev hrA (H:List zA2):zA4:=⟨(H.length:Int),zO7 H⟩
abbrev zPn (a:Acc):zAp:=⟨zHe a.O,zHe a.T,zHe a.S,zHe a.I,xrA a.A,xrA a.B,hrA a.H⟩
theorem zTo {n:Nat} {xs:List Int} (h:xs.length≤n) (hn:n≤1000):0≤(zHe xs).n∧(zHe xs).n≤1000000000:=by rw [zUq];omega
theorem zT9 (A:List UInt64) (v:UInt64):zL2 (A++[v])=v:=by simp [zL2]
theorem zTa (A:List zA2) (v:zA2):zO7 (A++[v])=v:=by simp [zO7]
theorem zTd {A:List UInt64} {M:List Bool} (v:UInt64) (hA:A.length≤1000) (hM:M.length≤6000000000):zF (xrA A) (WrO M) v=some (WrO (M++flB A v),xrA (A++[v])):=by
 rw [zdo (zKc A) (by omega) hM];unfold flB xrA;rw [zT9,zQb,List.length_append];rfl
theorem zSa {n:Nat} {H:List zA2} (h:H.length≤n∧∀ x∈H,HOk x):(zO7 H).Pos.Counts.length≤1000∧(zO7 H).Neg.Counts.length≤1000:=by
 unfold zO7
 cases hl:H.getLast? with
 | none=>rw [List.getLast?_eq_none_iff.1 hl];exact ⟨by simp,by simp⟩
 | some z=>
  have hz:=List.mem_of_getLast? hl
  have e:H.getLastD h00=z:=by rw [List.getLastD_eq_getLast?,hl];rfl
  have:=h.2 z hz;rw [e];exact ⟨by have:=this.p;omega,by have:=this.n;omega⟩
theorem zby {n:Nat} {H:List zA2} {M:List Bool} {h:zA2} (hH:H.length≤n∧∀ x∈H,HOk x) (hn:n≤1000) (hM:M.length≤6000000000) (hc:hcE h=0) :
 zFk (hrA H) (WrO M) h=some (0,hrA (H++[h]),WrO (M++hB H.length (zO7 H) h)):=by
 have:=zQ3 hc;have p:=this.p;have q:=this.n;have e:=zSa hH;rw [zev (by omega) hM (by omega) (by omega) (by omega) (by omega),if_pos hc];unfold hrA;rw [zTa,List.length_append];rfl
theorem zf6 {n:Nat} {a:Acc} {M:List Bool} {x:It} (ha:zaf n a) (hn:n≤1000) (hx:ItR x) (hM:M.length≤5000000000) :
 zJ3 (zPn a) (WrO M) x.Ord x.Point=some (zHe (zM1 a x).O,zHe (zM1 a x).T,zHe (zM1 a x).S,zHe (zM1 a x).I,xrA (zM1 a x).A,xrA (zM1 a x).B,hrA (zM1 a x).H,WrO (M++itB a x)):=by
 have n1:=zKv (zHe a.O) x.Ord;have n2:=zKv (zHe a.T) x.Point.Time;have n3:=zKv (zHe a.S) (spn x.Point);have n4:=zMv x.Point.Flags.toNat;have n5:=(zY4 a.A.length (zL2 a.A) x.Point.Re (zKc a.A)).1
 have hfl:(zAf x.Point.Flags).toNat=x.Point.Flags.toNat:=by
  have:=hx.f0;have:=hx.f1;rw [zJd];omega
 have tail:∀ (y:zA9) (K:List Bool),K.length≤5500000000→((zIa (WrO K) (zAf x.Point.Flags)).bind λp44=>
  if x.Point.Kind=1 then
  ((zG0 (zHe a.I) p44 x.Point.Int_).bind λp49=>
   some (zSy (zHe a.O) (zAf x.Ord),zSy (zHe a.T) (zAf x.Point.Time),y,p49.2,xrA a.A,xrA a.B,hrA a.H,p49.1))
  else
  (if x.Point.Kind=4 then
   ((zFk (hrA a.H) p44 x.Point.Hist).bind λp62=>
    some (zSy (zHe a.O) (zAf x.Ord),zSy (zHe a.T) (zAf x.Point.Time),y,zHe a.I,xrA a.A,xrA a.B,p62.2.1,p62.2.2))
   else
   (if x.Point.Kind=5 then
    ((zF (xrA a.A) p44 x.Point.Re).bind λp74=>
     (zF (xrA a.B) p74.1 x.Point.Im).bind λp84=>
     some (zSy (zHe a.O) (zAf x.Ord),zSy (zHe a.T) (zAf x.Point.Time),y,zHe a.I,p74.2,p84.2,hrA a.H,p84.1))
    else
    ((zF (xrA a.A) p44 x.Point.Re).bind λp102=>
     some (zSy (zHe a.O) (zAf x.Ord),zSy (zHe a.T) (zAf x.Point.Time),y,zHe a.I,p102.2,xrA a.B,hrA a.H,p102.1))))) =
  some (zHe (zM1 a x).O,zHe (zM1 a x).T,y,zHe (zM1 a x).I,xrA (zM1 a x).A,xrA (zM1 a x).B,hrA (zM1 a x).H,WrO (K++(smB x.Point.Flags.toNat++zNg a x.Point))):=by
  intro y K hK;rw [zVe _ (by omega),zAh,hfl];unfold zM1 zNg;dsimp only;rw [zLg,zLg]
  by_cases k1:x.Point.Kind=1
  ·rw [if_pos k1,zTn (M:=K++smB x.Point.Flags.toNat) (zTo ha.i.1 hn) hx.i (by rw [List.length_append];omega),zAh,if_pos k1,if_pos (Or.inl k1),if_neg (show ¬x.Point.Kind=5 by omega),if_neg (show ¬x.Point.Kind=4 by omega),if_pos k1,zLg,List.append_assoc]
  rw [if_neg k1,if_neg k1,if_neg k1]
  by_cases k4:x.Point.Kind=4
  ·rw [if_pos k4,zby (M:=K++smB x.Point.Flags.toNat) ha.h hn (by rw [List.length_append];omega) hx.h,zAh,if_pos (Or.inr k4),if_neg (show ¬x.Point.Kind=5 by omega),if_pos k4,if_pos k4,List.append_assoc]
  rw [if_neg k4,if_neg (show ¬(x.Point.Kind=1∨x.Point.Kind=4) by omega),if_neg k4,if_neg k4]
  by_cases k5:x.Point.Kind=5
  ·rw [if_pos k5,zTd (M:=K++smB x.Point.Flags.toNat) _ (Nat.le_trans ha.re hn) (by rw [List.length_append];omega),zAh,zTd _ (Nat.le_trans ha.im hn) (by simp only [List.length_append,flB];omega),zAh,if_pos k5,if_pos k5];simp only [List.append_assoc]
  ·rw [if_neg k5,zTd (M:=K++smB x.Point.Flags.toNat) _ (Nat.le_trans ha.re hn) (by rw [List.length_append];omega),zAh,if_neg k5,if_neg k5,List.append_assoc]
 unfold zJ3;dsimp only;rw [zTn (zTo ha.o.1 hn) hx.o (by omega),zAh,zTn (zTo ha.t.1 hn) hx.t (by rw [List.length_append];omega),zAh,zB2];dsimp only
 by_cases k3:x.Point.Kind=3
 ·rw [if_neg (show ¬x.Point.Kind≠3 by omega),tail _ _ (by rw [List.length_append,List.length_append];omega)]
  unfold itB zXi;rw [if_pos k3,show (zM1 a x).S=a.S by unfold zM1;dsimp only;rw [if_pos k3],List.append_assoc,List.append_assoc,List.nil_append]
 ·rw [if_pos k3,show W64 (x.Point.Time-x.Point.Start)=spn x.Point from rfl,zTn (M:=M++zOg (zHe a.O) x.Ord++zOg (zHe a.T) x.Point.Time) (v:=spn x.Point) (zTo ha.s.1 hn) (zbl _) (by rw [List.length_append,List.length_append];omega),zAh,tail _ _ (by rw [List.length_append,List.length_append,List.length_append];omega)]
  unfold itB zXi;rw [if_neg k3,show (zM1 a x).S=a.S++[spn x.Point] by unfold zM1;dsimp only;rw [if_neg k3],zLg];simp only [List.append_assoc]
end Go.Proofs.YthjhejgjcdajdaaGreatDoor
set_option maxRecDepth 20000
set_option linter.unusedVariables false
set_option linter.unusedSimpArgs false
namespace Go.Proofs.YthjhejgjcdajdaaGreatDoor
open Go Go.RowKit Go.Wk
abbrev stA (K:List Bool) (a:Acc):List Int×List Int×List Int×List Int×List Int×List UInt64×List UInt64×List zA2:=(zs K,a.O,a.T,a.S,a.I,a.A,a.B,a.H)
theorem zaj {a b:List Bool} (h:a.length+b.length≤1073741824):zDu (zs a) (zs b)=some (zs (a++b)):=by
 rw [zB6 (by rw [zDv,zDv];exact h),zJ6]
theorem za6 {α:Type} {l:List α} {x:α} (h:l.length≤1000000):zDu l [x]=some (l++[x]):=zB6 (by simp;omega)
theorem zfm {l:List It} (hl:l.length≤500) (ok:∀ x∈l,ItR x):zGh l=some (zs (zE4 l)):=by
 unfold zGh;rw [zB2,zKk _ _ _ _ _ _ _ _ _ _ (by omega)];refine Eq.trans (zOc (λp=>stA (zE4 p) (zW6 p)) ?_) rfl
 ·intro p x q k hp
  have hx:ItR x:=ok x (by rw [← hp];simp)
  have okp:∀ y∈p,ItR y:=λy hy=>ok y (by rw [← hp];simp [hy])
  have hpl:=congrArg List.length hp;simp only [List.length_append,List.length_cons] at hpl;have hK:=zQ7 okp;have ha:=zW5 okp
  have hfl:(zAf x.Point.Flags).toNat=x.Point.Flags.toNat:=by
   have:=hx.f0;have:=hx.f1;rw [zJd];omega
  rw [zP,zSn];generalize zE4 p=K at hK ⊢;generalize zW6 p=a at ha ⊢;have n1:=zKv (zHe a.O) x.Ord;have n2:=zKv (zHe a.T) x.Point.Time;have n3:=zKv (zHe a.S) (spn x.Point);have n4:=zMv x.Point.Flags.toNat;have n5:=(zY4 a.A.length (zL2 a.A) x.Point.Re (zKc a.A)).1;have n6:=(zY4 a.B.length (zL2 a.B) x.Point.Im (zKc a.B)).1;have n7:=(zgu (n:=a.H.length) (last:=zO7 a.H) (zQ3 hx.h)).1;have n8:=zKv (zHe a.I) x.Point.Int_;have ao:=ha.o.1;have at_:=ha.t.1;have as_:=ha.s.1;have ai:=ha.i.1;have are:=ha.re;have aim:=ha.im;have ah:=ha.h.1;dsimp only;rw [zAh,zAh,zTv (by omega) ha.o.2 hx.o,zAh,zaj (by omega),zAh,zAh,za6 (by omega),zAh,zTv (by omega) ha.t.2 hx.t,zAh,zaj (by rw [List.length_append];omega),zAh,za6 (by omega),zAh];have tail:∀ (L:List Bool) (s':List Int),L.length≤20000000 →
   ((zAv (zAf x.Point.Flags)).bind λp105=>
    (zDu (zs L) p105).bind λz108=>
    jn (λ(y110:(List Int)) (y113:(List Int)) (y116:(List UInt64)) (y119:(List UInt64)) (y122:(List zA2))=>
     (k (y110,a.O++[x.Ord],a.T++[x.Point.Time],s',y113,y116,y119,y122))) λj3=>
    if x.Point.Kind=1 then
    ((zB9 a.I x.Point.Int_).bind λp127=>
     (zDu z108 p127).bind λz132=>
     (zDu a.I [x.Point.Int_]).bind λz134=>
     j3 z132 z134 a.A a.B a.H)
    else
    (jn (λ(y136:Bool)=>
     (if y136=true then
      ((zB3 a.A x.Point.Re).bind λp139=>
       (zDu z108 p139).bind λz142=>
       (zDu a.A [x.Point.Re]).bind λz144=>
       j3 z142 a.I z144 a.B a.H)
      else
      (if x.Point.Kind=4 then
       ((zDx a.H x.Point.Hist).bind λp147=>
        (zDu z108 p147).bind λz150=>
        (zDu a.H [x.Point.Hist]).bind λz152=>
        j3 z150 a.I a.A a.B z152)
       else
       (if x.Point.Kind=5 then
        ((zB3 a.A x.Point.Re).bind λp155=>
         (zDu z108 p155).bind λz158=>
         (zDu a.A [x.Point.Re]).bind λz160=>
         (zB3 a.B x.Point.Im).bind λp162=>
         (zDu z158 p162).bind λz165=>
         (zDu a.B [x.Point.Im]).bind λz167=>
         j3 z165 a.I z160 z167 a.H)
        else
        (j3 z108 a.I a.A a.B a.H))))) λj4=>
     if x.Point.Kind=2 then
     (j4 (decide (x.Point.Kind=2)))
     else
     (j4 (decide (x.Point.Kind=3))))) =
   k (zs (L++(smB x.Point.Flags.toNat++zNg a x.Point)),a.O++[x.Ord],a.T++[x.Point.Time],s',(zM1 a x).I,(zM1 a x).A,(zM1 a x).B,(zM1 a x).H):=by
   intro L s' hL;rw [zP2,zAh,hfl,zaj (by omega),zAh,zB2]
   have hl2:(L++smB x.Point.Flags.toNat).length≤20000100:=by rw [List.length_append];omega
   rw [← List.append_assoc];generalize L++smB x.Point.Flags.toNat=L' at hl2 ⊢;unfold zM1 zNg;dsimp only;have hk0:=hx.k0;have hk1:=hx.k1
   by_cases k1:x.Point.Kind=1
   ·rw [if_pos k1,zTv (by omega) ha.i.2 hx.i,zAh,zaj (by omega),zAh,za6 (by omega),zAh,if_pos k1,if_pos k1,if_pos (Or.inl k1),if_neg (show ¬x.Point.Kind=5 by omega),if_neg (show ¬x.Point.Kind=4 by omega)]
   rw [if_neg k1,if_neg k1,if_neg k1,zB2]
   by_cases k4:x.Point.Kind=4
   ·rw [if_neg (show ¬x.Point.Kind=2 by omega),decide_eq_false (show ¬x.Point.Kind=3 by omega)]
    dsimp only;rw [if_neg (show ¬false=true by decide),if_pos k4,zYw (by omega) (zQ3 hx.h),zAh,zaj (by omega),zAh,za6 (by omega),zAh,if_pos k4,if_pos (Or.inr k4),if_neg (show ¬x.Point.Kind=5 by omega),if_pos k4]
   rw [if_neg (show ¬(x.Point.Kind=1∨x.Point.Kind=4) by omega)]
   by_cases k5:x.Point.Kind=5
   ·rw [if_neg (show ¬x.Point.Kind=2 by omega),decide_eq_false (show ¬x.Point.Kind=3 by omega)]
    dsimp only;rw [if_neg (show ¬false=true by decide),if_neg k4,if_pos k5,zQ4 (by omega),zAh,zaj (by omega),zAh,za6 (by omega),zAh,zQ4 (by omega),zAh,zaj (by rw [List.length_append];omega),zAh,za6 (by omega),zAh,if_neg k4,if_pos k5,if_pos k5,if_neg k4];simp only [List.append_assoc]
   ·rw [if_neg k4,if_neg k5,if_neg k5,if_neg k4]
    by_cases k2:x.Point.Kind=2
    ·rw [if_pos k2,decide_eq_true k2]
     dsimp only;rw [if_pos (show true=true from rfl),zQ4 (by omega),zAh,zaj (by omega),zAh,za6 (by omega),zAh];simp only [if_neg k4,if_neg k5]
    ·rw [if_neg k2,decide_eq_true (show x.Point.Kind=3 by omega)]
     dsimp only;rw [if_pos (show true=true from rfl),zQ4 (by omega),zAh,zaj (by omega),zAh,za6 (by omega),zAh];simp only [if_neg k4,if_neg k5]
  rw [zB2];dsimp only
  by_cases k3:x.Point.Kind=3
  ·rw [if_neg (show ¬x.Point.Kind≠3 by omega),tail _ _ (by rw [List.length_append,List.length_append];omega)]
   unfold itB zXi;unfold stA;rw [if_pos k3,show (zM1 a x).S=a.S by unfold zM1;dsimp only;rw [if_pos k3]];simp only [List.append_assoc,List.nil_append]
   rfl
  ·rw [if_pos k3,show W64 (x.Point.Time-x.Point.Start)=spn x.Point from rfl,zTv (v:=spn x.Point) (by omega) ha.s.2 (zbl _),zAh,zaj (by rw [List.length_append,List.length_append];omega),zAh,za6 (by omega),zAh,tail _ _ (by rw [List.length_append,List.length_append,List.length_append];omega)]
   unfold itB zXi;unfold stA;rw [if_neg k3,show (zM1 a x).S=a.S++[spn x.Point] by unfold zM1;dsimp only;rw [if_neg k3]];simp only [List.append_assoc]
   rfl
end Go.Proofs.YthjhejgjcdajdaaGreatDoor
set_option maxRecDepth 20000
set_option linter.unusedVariables false
set_option linter.unusedSimpArgs false
namespace Go.Proofs.YthjhejgjcdajdaaGreatDoor
open Go Go.RowKit Go.Wk
theorem zge {n:Nat} (hn:n<64):zEb (n:Int)=some (UInt64.ofNat (2^n)):=by
 unfold zEb;rw [zB2];obtain ⟨f,hf⟩:=zJs 65 (by omega)
 have key:∀ (r i f:Nat),i+r=n→r<f→zBs (n:Int) (λy1=>some y1) f (UInt64.ofNat (2^i)) (i:Int)=some (UInt64.ofNat (2^n)):=by
  intro r
  induction r with
  | zero=>
   intro i f hi hf;obtain ⟨f,rfl⟩:∃ k,f=k+1:=⟨f-1,by omega⟩;rw [zBs,if_neg (by omega),show i=n by omega]
  | succ r ih=>
   intro i f hi hf;obtain ⟨f,rfl⟩:∃ k,f=k+1:=⟨f-1,by omega⟩;rw [zBs,if_pos (by omega),zEx (by omega)]
   have e:(2:UInt64)*UInt64.ofNat (2^i)=UInt64.ofNat (2^(i+1)):=by
    apply UInt64.toNat_inj.1
    rw [UInt64.toNat_mul,UInt64.toNat_ofNat',UInt64.toNat_ofNat',Nat.pow_succ,show (2:UInt64).toNat=2 from rfl,Nat.mul_mod_mod,Nat.mul_comm,← Nat.pow_succ]
   rw [e];exact ih (i+1) f (by omega) (by omega)
 have:=key n 0 fuel (by omega) (by rw [hf];omega);exact this
theorem zad (v:UInt64):zFj v=some ((oth v.toNat:Nat):Int):=by
 unfold zFj;rw [zB2];obtain ⟨f,hf⟩:=zJs 10 (by omega);have hv:=v.toNat_lt
 have key:∀ (r i f:Nat),i+r=8→r<f→i≤oth v.toNat→zBn v (λ_=>some 8) f (i:Int)=some ((oth v.toNat:Nat):Int):=by
  intro r
  induction r with
  | zero=>
   intro i f hi hf h;obtain ⟨f,rfl⟩:∃ k,f=k+1:=⟨f-1,by omega⟩;have:=zT8 v.toNat;rw [zBn,if_neg (by omega),show oth v.toNat=8 by omega];rfl
  | succ r ih=>
   intro i f hi hf h;obtain ⟨f,rfl⟩:∃ k,f=k+1:=⟨f-1,by omega⟩
   have e:W64 (7+W64 (7*(i:Int)))=((7+7*i:Nat):Int):=by rw [zAs (z:=7*(i:Int)) (by omega) (by omega),zAs (by omega) (by omega)];omega
   rw [zBn,if_pos (by omega),e,zge (by omega),zAh]
   have hp:(UInt64.ofNat (2^(7+7*i))).toNat=2^(7+7*i):=by
    rw [UInt64.toNat_ofNat'];apply Nat.mod_eq_of_lt;exact Nat.pow_lt_pow_right (by decide) (by omega)
   rw [hp]
   by_cases hlt:v.toNat<2^(7+7*i)
   ·rw [if_pos (by omega)]
    by_cases he:oth v.toNat=i
    ·rw [he]
    ·have h0:=zgn (n:=v.toNat) (by omega)
     have:2^(7+7*i)≤2^(7*oth v.toNat):=Nat.pow_le_pow_right (by decide) (by omega)
     omega
   ·rw [if_neg (by omega),zEx (by omega)]
    refine ih (i+1) f (by omega) (by omega) ?_
    by_cases he:oth v.toNat=i
    ·have:=zda (n:=v.toNat) (by omega)
     rw [he,Nat.add_comm] at this;exact (hlt this).elim
    ·omega
 have:=key 8 0 fuel (by omega) (by rw [hf];omega) (by omega);exact this
theorem zXd (n:Nat):∀ k,byt n (k+1)=byt (n/256) k++[UInt8.ofNat (n%256)]
 | 0=>by simp [byt]
 | k+1=>by
  rw [byt,zXd n k,byt,Nat.div_div_eq_div_mul,Nat.mul_comm 256,← Nat.pow_succ];rfl
theorem ze8 (p:Nat) (j:UInt64→List UInt8→Option (List UInt8)) (hp:p≤8):∀ (r i f:Nat) (v:UInt64) (acc:List UInt8),i+r=p→r<f→acc.length≤i →
 zC5 (p:Int) j f v acc (i:Int)=j (UInt64.ofNat (v.toNat/256^r)) (byt v.toNat r++acc):=by
 intro r
 induction r with
 | zero=>
  intro i f v acc hi hf ha;obtain ⟨f,rfl⟩:∃ k,f=k+1:=⟨f-1,by omega⟩;rw [zC5,if_neg (by omega),Nat.pow_zero,Nat.div_one,ofN];rfl
 | succ r ih=>
  intro i f v acc hi hf ha;obtain ⟨f,rfl⟩:∃ k,f=k+1:=⟨f-1,by omega⟩;have hv:=v.toNat_lt;rw [zC5,if_pos (by omega),zXm _ _ (by decide),zAh,zB6 (by simp;omega),zAh,zed _ _ (by decide),zAh,zEx (by omega)];rw [ih (i+1) f _ _ (by omega) (by omega) (by simp;omega)]
  have e1:(UInt64.ofNat (v.toNat/(256:UInt64).toNat)).toNat=v.toNat/256:=by rw [UInt64.toNat_ofNat'];exact Nat.mod_eq_of_lt (by have:v.toNat/256≤v.toNat:=Nat.div_le_self _ _;show v.toNat/256<_;omega)
  have e2:toU8 ((UInt64.ofNat (v.toNat%(256:UInt64).toNat)).toNat:Int)=UInt8.ofNat (v.toNat%256):=by
   rw [zOq,UInt64.toNat_ofNat',show (256:UInt64).toNat=256 from rfl,Nat.mod_eq_of_lt (show v.toNat%256<2^64 by omega),Nat.mod_eq_of_lt (show v.toNat%256<256 by omega)]
  rw [e1,e2,Nat.div_div_eq_div_mul,Nat.mul_comm,← Nat.pow_succ,zXd,List.append_assoc]
theorem zbk (j:Int→Option (List UInt8)) (p:Nat) (hp:p≤8):∀ (r i f:Nat),i+r=p→r<f →
 zC6 (p:Int) j f ((256-2^(8-i):Nat):Int) (i:Int)=j ((256-2^(8-p):Nat):Int):=by
 intro r
 induction r with
 | zero=>
  intro i f hi hf;obtain ⟨f,rfl⟩:∃ k,f=k+1:=⟨f-1,by omega⟩;rw [zC6,if_neg (by omega),show i=p by omega]
 | succ r ih=>
  intro i f hi hf;obtain ⟨f,rfl⟩:∃ k,f=k+1:=⟨f-1,by omega⟩
  have h8:∀ i:Nat,i<8→128/2^i+(256-2^(8-i))=256-2^(8-(i+1))∧2^i≤128∧256-2^(8-i)≤255:=by decide
  obtain ⟨h1,h2,h3⟩:=h8 i (by omega);have hp0:=Nat.two_pow_pos i;rw [zC6,if_pos (by omega),zge (by omega),zAh,zBi (by omega),zAs (z:=((2^i:Nat):Int)) (by omega) (by omega),show (128:Int)=((128:Nat):Int) from rfl,zNh (by omega) (by omega),zAh,zEx (by omega)];have h4:256-2^(8-(i+1))≤256:=Nat.sub_le _ _;rw [show ((256-2^(8-i):Nat):Int)+((128/2^i:Nat):Int)=((256-2^(8-(i+1)):Nat):Int) by rw [← h1];omega,zAs (z:=((256-2^(8-(i+1)):Nat):Int)) (by omega) (by omega)];exact ih (i+1) f (by omega) (by omega)
theorem zVm (v:UInt64):zE v=some (enc v):=by
 unfold zE;have hv:=v.toNat_lt;have hle:=zT8 v.toNat;obtain ⟨f,hf⟩:=zJs 10 (by omega);rw [zad,zAh,zB2,show (0:Int)=((0:Nat):Int) from rfl,ze8 _ _ hle (oth v.toNat) 0 fuel v [] (by omega) (by rw [hf];omega) (by simp),List.append_nil,zB2];rw [show ((0:Nat):Int)=((256-2^(8-0):Nat):Int) from rfl,show ((256-2^(8-0):Nat):Int)=((0:Nat):Int) from rfl]
 have hs := zbk (λ(y8:Int) =>
  (jn (λ(y10:Int)=>
   ((zDu ([toU8 y10]:List UInt8) (byt v.toNat (oth v.toNat))).bind λz15=>
    some z15)) λj3=>
   if ((oth v.toNat:Nat):Int)<8 then
   (j3 (W64 (y8+(W64 (((UInt64.ofNat (v.toNat/256^oth v.toNat)).toNat:Nat):Int)))))
   else
   (j3 y8))) (oth v.toNat) hle (oth v.toNat) 0 fuel (by omega) (by rw [hf];omega)
 refine Eq.trans hs ?_;rw [zB2];unfold enc;have hd:v.toNat/256^oth v.toNat≤v.toNat:=Nat.div_le_self _ _
 have ha:∀ b:UInt8,zDu [b] (byt v.toNat (oth v.toNat))=some (b::byt v.toNat (oth v.toNat)):=λb=>by rw [zB6 (by simp [zU8];omega)];rfl
 by_cases h8:oth v.toNat<8
 ·have ht:=zOa h8
  have hb:∀ k:Nat,k<8→2^(7-k)≤128∧256-2^(8-k)+2^(7-k)≤256:=by decide
  obtain ⟨b1,b2⟩:=hb _ h8;rw [if_pos (by omega),zBi (by omega),zXw,if_pos h8];generalize v.toNat/256^oth v.toNat=q at ht hd ⊢;rw [zAs (z:=(q:Int)) (by omega) (by omega),← Int.natCast_add,zAs (z:=((256-2^(8-oth v.toNat)+q:Nat):Int)) (by omega) (by omega)];dsimp only;rw [ zOq,Nat.mod_eq_of_lt (by omega),ha,zAh]
 ·rw [if_neg (by omega)]
  dsimp only;rw [show oth v.toNat=8 by omega] at ha ⊢;rw [show ((256-2^(8-8):Nat):Int)=((255:Nat):Int) from rfl,zOq,ha,zAh,zXw,if_neg (by omega)];rfl
theorem zbb {s:List UInt8} (hs:s.length≤1000000):zGl s=some (zRl s):=by
 unfold zGl zRl
 have e:zAf (s.length:Int)=UInt64.ofNat s.length:=by unfold zAf;congr 1;omega
 have:=zG6 (UInt64.ofNat s.length);rw [e,zVm,zAh,zB6 (by omega),zAh]
end Go.Proofs.YthjhejgjcdajdaaGreatDoor
set_option maxRecDepth 20000
set_option linter.unusedVariables false
set_option linter.unusedSimpArgs false
namespace Go.Proofs.YthjhejgjcdajdaaGreatDoor
open Go Go.RowKit Go.Wk
def hdB (k:List UInt8) (n:Nat) (M:List Bool):List UInt8:=(zRl k++enc (UInt64.ofNat n))++enc (UInt64.ofNat M.length)
def chB (k:List UInt8) (n:Nat) (M:List Bool):List UInt8:=hdB k n M++zDn M
theorem zX5 {k:List UInt8} (n:Nat) (M:List Bool) (hk:k.length≤100000):(hdB k n M).length≤200000:=by
 have h1:=zG6 (UInt64.ofNat k.length);have h2:=zG6 (UInt64.ofNat n);have h3:=zG6 (UInt64.ofNat M.length);unfold hdB zRl;simp only [List.length_append];omega
theorem zOs (n:Nat):zAf (n:Int)=UInt64.ofNat n:=by
 apply UInt64.toNat_inj.1
 rw [zJd,UInt64.toNat_ofNat'];omega
theorem zZo {k:List UInt8} {mo la:Int} {ro:zAp} {n:Nat} {M:List Bool} (hk:k.length≤100000) :
 zGy ⟨k,mo,(n:Int),la,WrO M,ro⟩=some ⟨hdB k n M⟩:=by
 unfold zGy zKx zEf hdB;have h1:=zG6 (UInt64.ofNat k.length);have h2:=zG6 (UInt64.ofNat n)
 have hT:(zRl k).length≤100009:=by unfold zRl;rw [List.length_append];omega
 dsimp only;rw [zAh,zam _ _ (by simp) (by omega),zAh,List.nil_append,zOs,zVd _ _ (by omega),zAh,zAh,zOs,zVd _ _ (by rw [List.length_append];omega),zAh]
theorem ze1 {k:List UInt8} {mo la:Int} {ro:zAp} {n:Nat} {M:List Bool} (hk:k.length≤100000) (hM:M.length≤6000000000) :
 zI ⟨k,mo,(n:Int),la,WrO M,ro⟩=some ((chB k n M).length:Int):=by
 have hh:=zX5 n M hk;unfold zI;rw [zZo hk,zAh];unfold zK2 zEf chB;dsimp only;rw [zAh,zAh,zAs (z:=(M.length:Int)+7) (by omega) (by omega),show (M.length:Int)+7=((M.length+7:Nat):Int) by omega,show (8:Int)=((8:Nat):Int) from rfl,zNh (by decide) (by omega),zAh,List.length_append,zF4,zAs (by omega) (by omega)];rfl
theorem za0 {k:List UInt8} {mo la:Int} {ro:zAp} {n:Nat} {M:List Bool} (hk:k.length≤100000) (hM:M.length≤6000000000) :
 zGe ⟨k,mo,(n:Int),la,WrO M,ro⟩=some (chB k n M):=by
 have hh:=zX5 n M hk;have hp:=zF4 M;unfold zGe;rw [zZo hk,zAh];dsimp only;rw [zY7 (by omega),zAh];unfold zK1 zJ4;dsimp only;rw [zB6 (by omega),zAh,zAh];dsimp only;rw [zRo _ (by rw [List.length_append];omega),zAh,zAh];rfl
theorem zZ1 {k:List UInt8} {l:List It} (hk:k.length≤100000) (hl:l.length≤500) (ok:∀ x∈l,ItR x):zE6 k l=some (chB k l.length (zE4 l)):=by
 have hb:=zQ7 ok;have hh:=zX5 l.length (zE4 l) hk;have hp:=zF4 (zE4 l);have h1:=zG6 (UInt64.ofNat k.length);have h2:=zG6 (UInt64.ofNat l.length);have h3:=zG6 (UInt64.ofNat (zE4 l).length)
 have hT:(zRl k).length≤100009:=by unfold zRl;rw [List.length_append];omega
 unfold zE6;rw [zfm hl ok,zAh,zbb (by omega),zAh,zOs,zVm,zAh,zH6 (by omega),zAh,zDv,zOs,zVm,zAh,zH6 (by rw [List.length_append];omega),zAh,za1 (by omega),zAh,zH6 (by simp only [List.length_append];omega),zAh,zTw (by simp only [List.length_append];omega),zAh];rfl
def zPy (l:List It):Int:=match l.getLast? with
 | none=>-1
 | some x=>x.Ord
theorem zQp (l:List It) (x:It):zPy (l++[x])=x.Ord:=by unfold zPy;rw [List.getLast?_append];rfl
abbrev chS (k:List UInt8) (mo:Int) (l:List It):zAg:=⟨k,mo,(l.length:Int),zPy l,WrO (zE4 l),zPn (zW6 l)⟩
def zY (k:List UInt8) (l:List It) (mo:Int) (x:It):Int:=
 if pcE x.Point≠0 then pcE x.Point else if zMe x.Point≠k then 14 else if x.Ord<0∨x.Ord>4503599627370496 then 1
 else if x.Ord≤zPy l then 9 else if l.length=128 then 6 else if ((chB k (l.length+1) (zE4 (l++[x]))).length:Int)>mo then 6 else 0
theorem zZl {x:It} (h:pcE x.Point=0) (ho:¬(x.Ord<0∨x.Ord>4503599627370496)) (hi:okI x.Point.Int_) (hh:hcE x.Point.Hist=0):ItR x:=by
 obtain ⟨k1,k2,t1,t2,f0,f1,s0,s1,tt⟩:=zQh (zNv h);exact ⟨k1,k2,by unfold okI;omega,by unfold okI;omega,hi,f0,f1,hh⟩
theorem zec {k:List UInt8} {l:List It} {x:It} (mo:Int) (hk:k.length≤100000) (hl:l.length≤400) (ok:∀ x∈l,ItR x) (hi:okI x.Point.Int_) (hh:pcE x.Point=0→hcE x.Point.Hist=0)
 (h1:x.Point.Hist.Pos.Counts.length≤1000000) (h2:x.Point.Hist.Neg.Counts.length≤1000000):zGu k l mo x=some (zY k l mo x):=by
 unfold zGu zY;rw [zZ _ h1 h2,zAh];unfold zde
 by_cases hp:pcE x.Point=0
 ·rw [if_pos hp,if_neg (show ¬(0:Int)≠0 by decide),if_neg (show ¬pcE x.Point≠0 by omega)]
  dsimp only
  by_cases hke:zMe x.Point≠k
  ·rw [if_pos hke,if_pos hke]
  rw [if_neg hke,if_neg hke]
  by_cases ho:x.Ord<0∨x.Ord>4503599627370496
  ·rw [if_pos ho,if_pos ho]
  rw [if_neg ho,if_neg ho,zB2];have hx:=zZl hp ho hi (hh hp)
  have ok2:∀ y∈l++[x],ItR y:=λy hy=>by
   rcases List.mem_append.1 hy with e|e
   ·exact ok y e
   ·rw [List.mem_singleton.1 e];exact hx
  have tail:∀ b:Bool, b=decide (x.Ord≤zPy l)→(if b=true then
   (some 9)
   else
   (if (l.length:Int)=128 then
    (some 6)
    else
    ((zDu ([]:List zAc) l).bind λz26=>
     (zDu z26 [x]).bind λz30=>
     (zE6 k z30).bind λp32=>
     if (p32.length:Int)>mo then
     (some 6)
     else
     (some 0))))=some (if x.Ord≤zPy l then (9:Int) else if l.length=128 then 6 else if ((chB k (l.length+1) (zE4 (l++[x]))).length:Int)>mo then 6 else 0):=by
   rintro b rfl
   by_cases hlo:x.Ord≤zPy l
   ·rw [if_pos hlo,if_pos (decide_eq_true hlo)]
   rw [if_neg hlo,if_neg (by rw [decide_eq_false hlo];decide)]
   by_cases h128:l.length=128
   ·rw [if_pos h128,if_pos (by omega)]
   rw [if_neg h128,if_neg (by omega),zB6 (by simp;omega),zAh,List.nil_append,za6 (by omega),zAh,zZ1 hk (by simp;omega) ok2,zAh,List.length_append]
   split
   ·rw [if_pos (by assumption)]
   ·rw [if_neg (by assumption)]
  by_cases h0:l=[]
  ·subst h0
   rw [if_neg (by simp)];refine tail false ?_;rw [decide_eq_false];unfold zPy;show ¬x.Ord≤-1;omega
  ·have hpos:0<l.length:=List.length_pos_iff.2 h0
   obtain ⟨t,y,rfl⟩:∃ t y,l=t++[y]:=⟨l.dropLast,l.getLast h0,(List.dropLast_concat_getLast h0).symm⟩
   have e:W64 (((t++[y]).length:Int)-1)=((t.length:Nat):Int):=by rw [List.length_append];simp only [List.length_cons,List.length_nil];rw [zAs (by simp at hl;omega) (by simp at hl;omega)];omega
   rw [if_pos (by omega),e,zFy,zAh];refine tail _ ?_;rw [zQp]
 ·rw [if_neg hp,if_pos (show pcE x.Point≠0 from hp),if_pos hp]
theorem za {n:Nat} {a:Acc} (ha:zaf n a) (hn:n≤1000):zHz (zPn a)=some (zPn a):=by
 have e:=zSa ha.h;unfold zHz zGq zJg zIp;simp only [zAh];rw [zQ2 _ (by omega) (by omega),zAh,zAh]
theorem zf8 {k:List UInt8} {l:List It} {x:It} (mo:Int) (hk:k.length≤100000) (hl:l.length≤400) (ok:∀ x∈l,ItR x) (hi:okI x.Point.Int_) (hh:pcE x.Point=0→hcE x.Point.Hist=0)
 (h1:x.Point.Hist.Pos.Counts.length≤1000000) (h2:x.Point.Hist.Neg.Counts.length≤1000000) :
 zIi (chS k mo l) x.Ord x.Point=some (zY k l mo x,if zY k l mo x=0 then chS k mo (l++[x]) else chS k mo l):=by
 unfold zIi zY;rw [zdd _ h1 h2,zAh];unfold zde
 by_cases hp:pcE x.Point=0
 ·rw [if_pos hp,if_neg (show ¬(0:Int)≠0 by decide),if_neg (show ¬pcE x.Point≠0 by omega)]
  dsimp only
  by_cases hke:zMe x.Point≠k
  ·rw [if_pos hke,if_pos hke];rfl
  rw [if_neg hke,if_neg hke]
  by_cases ho:x.Ord<0∨x.Ord>4503599627370496
  ·rw [if_pos ho,if_pos ho];rfl
  rw [if_neg ho,if_neg ho]
  by_cases hlo:x.Ord≤zPy l
  ·rw [if_pos hlo,if_pos hlo];rfl
  rw [if_neg hlo,if_neg hlo]
  by_cases h128:l.length=128
  ·rw [if_pos (by omega),if_pos h128];rfl
  rw [if_neg (by omega),if_neg h128,zB2];have hx:=zZl hp ho hi (hh hp);have hb:=zQ7 ok;have ha:=zW5 ok;have hit:=zdf ha hx;unfold zEf;dsimp only;rw [zAh,za ha (by omega),zAh,zf6 ha (by omega) hx (by omega),zAh];dsimp only;rw [zEx (by omega),ze1 hk (by rw [List.length_append];omega),zAh,zP]
  by_cases hs:((chB k (l.length+1) (zE4 l++itB (zW6 l) x)).length:Int)>mo
  ·rw [if_pos hs,if_pos hs,zds (by rw [List.length_append];omega),zAh,zAs (z:=((l.length+1:Nat):Int)-1) (by omega) (by omega),if_neg (by decide)]
   rw [show ((l.length+1:Nat):Int)-1=(l.length:Int) by omega]
  ·rw [if_neg hs,if_neg hs,if_pos rfl]
   unfold chS;rw [zP,zSn,zQp,List.length_append];rfl
 ·rw [if_neg hp,if_pos (show pcE x.Point≠0 from hp),if_pos hp,if_neg hp]
end Go.Proofs.YthjhejgjcdajdaaGreatDoor
set_option maxRecDepth 20000
set_option linter.unusedVariables false
set_option linter.unusedSimpArgs false
namespace Go.Proofs.YthjhejgjcdajdaaGreatDoor
open Go Go.RowKit Go.Wk
def zPx (p:Pt):Bool:=decide (p.Name.length≤100)&&zV1 p.Attrs&&decide (p.Hist.Pos.Counts.length≤300∧p.Hist.Neg.Counts.length≤300)
theorem zbv (p:Pt):zDj p=some (zPx p):=zeo p
theorem zOy {p:Pt} (h:zPx p=true):Few p∧p.Hist.Pos.Counts.length≤300∧p.Hist.Neg.Counts.length≤300:=zZg h
theorem zXe {h:zA2} (e:zO8 h=true):h=h00:=by
 unfold zO8 at e;rw [decide_eq_true_iff] at e;obtain ⟨a,b,c,d,f,g⟩:=e
 match h,a,b,c,d,f,g with
 | ⟨_,_,⟨_,_⟩,⟨_,_⟩⟩,rfl,rfl,rfl,rfl,rfl,rfl=>rfl
theorem zZ3 {p:Pt} (h:pcE p=0):hcE p.Hist=0:=by
 have r:=zNv h
 by_cases k:p.Kind=4
 ·exact r.h k
 ·have o:=r.o
  unfold zVq at o;rw [decide_eq_true_iff] at o;rw [zXe (o.2.2.2.1 k)];exact zZp
theorem zen (l:List It) {n:Int} (hn:n≤1000):zFq l n=some (decide ((l.length:Int)≤n)&&l.all λx=>zPx x.Point):=by
 unfold zFq
 by_cases h:(l.length:Int)>n
 ·rw [if_pos h,decide_eq_false (by omega)];rfl
 ·rw [if_neg h,decide_eq_true (show (l.length:Int)≤n by omega),zB2,zK3 _ _ (by omega),zN (λx=>zPx x.Point) (some false)]
  ·rw [Bool.true_and];cases l.all λx=>zPx x.Point<;>rfl
  ·intro i x k _
   rw [zAh,zbv,zAh]
   cases zPx x.Point<;>rfl
theorem zbq (p:Pt) (mo:Int) (h1:p.Hist.Pos.Counts.length≤1000000) (h2:p.Hist.Neg.Counts.length≤1000000) :
 zNp p mo=some (if pcE p=0 then (some (chS (zMe p) mo []),0) else (none,pcE p)):=by
 unfold zNp;rw [zdd _ h1 h2,zAh];unfold zde
 by_cases hp:pcE p=0
 ·rw [if_pos hp,if_pos hp,if_neg (show ¬(0:Int)≠0 by decide)]
  unfold zKa zGd zHf zKi zIh;rw [zAh];simp only [zAh]
  have e:(WrO (zE4 []))=⟨[],0⟩:=by unfold zE4;rw [zSq,WrO,zOe];rfl
  unfold chS;rw [e];rfl
 ·rw [if_neg hp,if_neg hp,if_pos (show pcE p≠0 from hp)]
theorem zVs {p:Pt} (h:pcE p=0):(zMe p).length≤10000:=by
 have:=zRd (zNv h).c;unfold zMe;simp only [List.length_append,List.length_cons,List.length_nil] at this ⊢;omega
theorem wf_ok {x:Int} (h:(Lit.int .i64 x).wf=true):okI x:=by
 unfold okI;simp [Lit.wf,IntKind.min,IntKind.max,IntKind.signed,IntKind.bits] at h
 omega
end Go.Proofs.YthjhejgjcdajdaaGreatDoor
set_option maxRecDepth 20000
namespace Go.Proofs.YthjhejgjcdajdaaGreatDoor
open Go Go.RowKit Go.Wk
abbrev zUb (p:Pt):Pt:=⟨p.Name,srt p.Attrs,p.Kind,p.Temp,p.Mono,p.Start,p.Time,p.Int_,p.Re,p.Im,p.Hist,p.Flags⟩
abbrev zaz (p:Pt):Pt:=⟨p.Name,srt p.Attrs,p.Kind,p.Temp,p.Mono,0,0,0,0,0,h00,0⟩
theorem zPi {L k R:List Bool} {a:Nat} (h:L.drop a=k++R):L.drop (a+k.length)=R∧(k≠[]→a+k.length≤L.length):=by
 constructor
 ·rw [← List.drop_drop,h,List.drop_left]
 ·intro hk
  have e:=congrArg List.length h;have:0<k.length:=List.length_pos_iff.2 hk;simp only [List.length_drop,List.length_append] at e
  omega
theorem zPj {L k R:List Bool} {a:Nat} (h:L.drop a=k++R) (ha:a≤L.length):a+k.length≤L.length:=by
 have e:=congrArg List.length h;simp only [List.length_drop,List.length_append] at e
 omega
theorem zYx {xs:List Int} (h:(zHe xs).n=0):(zHe xs).last=0:=by
 rw [zUq] at h;obtain rfl:xs=[]:=List.eq_nil_of_length_eq_zero (by omega)
 rfl
theorem zU6 {xs:List Int} {v:Int} {L R:List Bool} {a:Nat} (hx:xs.length≤1000) (hv:okI v) (hL:L.length≤1000000000) (ha:a≤L.length) (h:L.drop a=zOg (zHe xs) v++R) :
 zCx (RdO L a) 0 (zHe xs)=some (v,RdO L (a+(zOg (zHe xs) v).length),0,zHe (xs++[v])):=by
 have hn:=zUq xs;unfold zCx;rw [if_neg (by decide),ze9 ⟨by omega,by omega⟩ (by omega) ha,h,zc hv (by omega) zYx,zAh,if_pos rfl];unfold zK9;dsimp only;rw [if_pos rfl,zAh];dsimp only;rw [ofN,zWn hv,zLg]
theorem zW1 {A:List UInt64} {v:UInt64} {L R:List Bool} {a:Nat} (hA:A.length≤1000) (hL:L.length≤1000000000) (ha:a≤L.length) (h:L.drop a=flB A v++R) :
 zBw (RdO L a) 0 (xrA A)=some (v,RdO L (a+(flB A v).length),0,xrA (A++[v])):=by
 unfold zBw
 have hz:A.length=0→zL2 A=0:=λe=>by rw [List.eq_nil_of_length_eq_zero e];rfl
 rw [if_neg (by decide),zdq (zKc A) hz (by omega) (by omega) ha,h,zZq (zKc A),zAh,if_pos rfl];unfold zIr;dsimp only;rw [if_pos rfl,zAh];dsimp only;unfold xrA;rw [zT9,zQb,List.length_append];rfl
theorem zf7 {v:Nat} {L R:List Bool} {a:Nat} (ro:zAp) (hv:v<1000) (hL:L.length≤1000000000) (ha:a≤L.length) (h:L.drop a=smB v++R) :
 zFo ⟨RdO L a,ro,0⟩=some (UInt64.ofNat v,⟨RdO L (a+(smB v).length),ro,0⟩):=by
 unfold zFo;dsimp only;rw [if_neg (by decide),zVf (by omega) ha,h,zU v (by omega),zAh];unfold zK8;dsimp only;rw [if_pos rfl,zAh];rfl
theorem zc7 {n:Nat} {H:List zA2} {v:zA2} {L R:List Bool} {a:Nat} (hH:H.length≤n∧∀ x∈H,HOk x) (hn:n≤1000) (hv:hcE v=0) (hL:L.length≤1000000000) (ha:a≤L.length) (h:L.drop a=hB H.length (zO7 H) v++R) :
 zFl (hrA H) (RdO L a)=some (v,0,hrA (H++[v]),RdO L (a+(hB H.length (zO7 H) v).length)):=by
 obtain ⟨b1,b2⟩:=zSa hH;rw [zew hL (by omega) ha b1 b2,zey ha,h,zZr hv];unfold zfq shG;dsimp only;rw [if_pos rfl,if_pos rfl];unfold hrA;rw [zTa,List.length_append];rfl
theorem zbh {p:Pt} (h:pcE p=0):pcE (zUb p)=0:=by
 have hc:=(zNv h).c;have hs:=zSj hc;unfold pcE at h ⊢;dsimp only;rw [if_neg (by omega)] at h ⊢;exact h
structure ItP (x:It):Prop where
 pc:pcE x.Point=0
 o:¬(x.Ord<0∨x.Ord>4503599627370496)
 i:okI x.Point.Int_
theorem ItP.r {x:It} (h:ItP x):ItR x:=zZl h.pc h.o h.i (zZ3 h.pc)
theorem zgl {p:Pt} (h:pcE p=0):(p.Kind≠1→p.Int_=0)∧(¬(p.Kind=2∨p.Kind=3∨p.Kind=5)→p.Re=0)∧(p.Kind≠5→p.Im=0)∧(p.Kind≠4→p.Hist=h00)∧0≤p.Flags∧p.Flags≤31:=by
 have o:=(zNv h).o;unfold zVq at o;rw [decide_eq_true_iff] at o;exact ⟨o.1,o.2.1,o.2.2.1,λk=>zXe (o.2.2.2.1 k),o.2.2.2.2⟩
theorem zcv {p:Pt} (h:pcE p=0):0≤p.Start∧p.Time≤4503599627370496∧(if p.Kind=3 then p.Start=p.Time else p.Start<p.Time):=by
 have o:=(zNv h).t;unfold zMf at o;rwa [decide_eq_true_iff] at o
theorem zWw (k:Int) (r:zA6) {b:Bool} (h:b=false):zB1 b k r=some r:=by
 unfold zB1;rw [h,if_neg (by decide)]
theorem zQ5 {x:It} (hx:ItP x) {last:Int} (hl:last<x.Ord) (sp:Int) (hs:sp=if x.Point.Kind=3 then 0 else x.Point.Time-x.Point.Start) (r:zA) (ro:zAp) (q:Pt) (hq:q.Name=x.Point.Name∧q.Attrs=srt x.Point.Attrs∧q.Kind=x.Point.Kind∧q.Temp=x.Point.Temp∧q.Mono=x.Point.Mono∧q.Int_=x.Point.Int_∧q.Re=x.Point.Re∧q.Im=x.Point.Im∧q.Hist=x.Point.Hist) :
 (zB1 (decide ((x.Ord<0)∨(x.Ord>4503599627370496))) 1 ⟨r,ro,0⟩).bind (λp63=>
  (zB1 (decide (x.Ord≤last)) 9 p63).bind λp68=>
  (zB1 (decide ((x.Point.Time<0)∨(x.Point.Time>4503599627370496))) 1 p68).bind λp75=>
  (zB1 (decide ((q.Kind≠3)∧((sp<1)∨(sp>x.Point.Time)))) 1 p75).bind λp84=>
  if p84.e≠0 then
  none
  else
  ((zF1 (⟨q.Name,q.Attrs,q.Kind,q.Temp,q.Mono,W64 (x.Point.Time-sp),x.Point.Time,q.Int_,q.Re,q.Im,q.Hist,W64 ((minU (UInt64.ofNat x.Point.Flags.toNat) (1048576:UInt64)).toNat:Int)⟩:zA8)).bind λp134=>
   (zHr p84 0 p134).bind λp136=>
   some ((⟨x.Ord,(⟨q.Name,q.Attrs,q.Kind,q.Temp,q.Mono,W64 (x.Point.Time-sp),x.Point.Time,q.Int_,q.Re,q.Im,q.Hist,W64 ((minU (UInt64.ofNat x.Point.Flags.toNat) (1048576:UInt64)).toNat:Int)⟩:zA8)⟩:zAc),p136.2))) =
  some (⟨x.Ord,zUb x.Point⟩,⟨r,ro,0⟩):=by
 obtain ⟨q1,q2,q3,q4,q5,q6,q7,q8,q9⟩:=hq;rw [q1,q2,q3,q4,q5,q6,q7,q8,q9];obtain ⟨z1,z2,z3,z4,f0,f1⟩:=zgl hx.pc;obtain ⟨s0,t1,tk⟩:=zcv hx.pc;have ho:=hx.o;have hr:=hx.r;have hp:=(zQ3 hr.h).p;have hn:=(zQ3 hr.h).n
 have ht:x.Point.Start≤x.Point.Time:=by split at tk<;>omega
 have e1:W64 (x.Point.Time-sp)=x.Point.Start:=by
  by_cases k3:x.Point.Kind=3
  ·rw [if_pos k3] at hs tk;rw [zAs (by omega) (by omega)];omega
  ·rw [if_neg k3] at hs tk;rw [zAs (by omega) (by omega)];omega
 have e2:W64 (((minU (UInt64.ofNat x.Point.Flags.toNat) (1048576:UInt64)).toNat:Nat):Int)=x.Point.Flags:=by
  have hle:UInt64.ofNat x.Point.Flags.toNat≤(1048576:UInt64):=by
   rw [UInt64.le_iff_toNat_le,zBi (by omega),show (1048576:UInt64).toNat=1048576 from rfl];omega
  unfold minU;rw [if_pos hle,zBi (by omega),zAs (by omega) (by omega)];omega
 rw [zWw _ _ (decide_eq_false ho),zAh,zWw _ _ (decide_eq_false (by omega)),zAh,zWw _ _ (decide_eq_false (by omega)),zAh,zWw _ _ (decide_eq_false (by
  rintro ⟨h3,h4⟩
  rw [if_neg h3] at hs tk;omega)),zAh,if_neg (show ¬(0:Int)≠0 by decide),e1,e2,show (⟨x.Point.Name,srt x.Point.Attrs,x.Point.Kind,x.Point.Temp,x.Point.Mono,x.Point.Start,x.Point.Time,x.Point.Int_,x.Point.Re,x.Point.Im,x.Point.Hist,x.Point.Flags⟩:Pt)=zUb x.Point from rfl,zQ9 (zUb x.Point) (show x.Point.Hist.Pos.Counts.length≤1000000 by omega) (show x.Point.Hist.Neg.Counts.length≤1000000 by omega),zbh hx.pc,zAh]
 unfold zHr;dsimp only;rw [if_pos rfl,zAh]
theorem zc3 {n:Nat} {acc:Acc} {x:It} {L R:List Bool} {a:Nat} {last:Int} (ha:zaf n acc) (hn:n≤900) (hx:ItP x) (hL:L.length≤1000000000) (hal:a≤L.length) (hd:L.drop a=itB acc x++R) (hl:last<x.Ord) :
 zGc ⟨RdO L a,zPn acc,0⟩ (zaz x.Point) last=some (⟨x.Ord,zUb x.Point⟩,⟨RdO L (a+(itB acc x).length),zPn (zM1 acc x),0⟩):=by
 have hr:=hx.r;obtain ⟨z1,z2,z3,z4,f0,f1⟩:=zgl hx.pc;obtain ⟨s0,t1,tk⟩:=zcv hx.pc;have hk0:=hr.k0;have hk1:=hr.k1;unfold itB at hd ⊢;simp only [List.append_assoc] at hd;have d1:=zPi hd;have a1:=zPj hd hal;have d2:=zPi d1.1;have a2:=zPj d1.1 a1;have d3:=zPi d2.1;have a3:=zPj d2.1 a2;have d4:=zPi d3.1;have a4:=zPj d3.1 a3;have d5:=zPi d4.1;have a5:=zPj d4.1 a4;unfold zGc;dsimp only;rw [zU6 (Nat.le_trans ha.o.1 (by omega)) hr.o hL hal hd,zAh];dsimp only;rw [zU6 (Nat.le_trans ha.t.1 (by omega)) hr.t hL a1 d1.1,zAh,zB2];dsimp only;have tail:∀ (sp:Int) (ro:zA9) (b:Nat),sp=(if x.Point.Kind=3 then 0 else x.Point.Time-x.Point.Start)→ro=zHe (zM1 acc x).S→b≤L.length→L.drop b=smB x.Point.Flags.toNat++(zNg acc x.Point++R) →
  ((zFo ⟨RdO L b,⟨zHe (acc.O++[x.Ord]),zHe (acc.T++[x.Point.Time]),ro,zHe acc.I,xrA acc.A,xrA acc.B,hrA acc.H⟩,0⟩).bind λp48=>
  jn (λ(y52:zA6) (y53:zA8)=>
   ((zB1 (decide ((x.Ord<0)∨(x.Ord>4503599627370496))) 1 y52).bind λp63=>
    (zB1 (decide (x.Ord≤last)) 9 p63).bind λp68=>
    (zB1 (decide ((x.Point.Time<0)∨(x.Point.Time>4503599627370496))) 1 p68).bind λp75=>
    (zB1 (decide ((y53.Kind≠3)∧((sp<1)∨(sp>x.Point.Time)))) 1 p75).bind λp84=>
    if p84.e≠0 then
    none
    else
    ((zF1 (⟨y53.Name,y53.Attrs,y53.Kind,y53.Temp,y53.Mono,W64 (x.Point.Time-sp),x.Point.Time,y53.Int_,y53.Re,y53.Im,y53.Hist,W64 ((minU p48.1 (1048576:UInt64)).toNat:Int)⟩:zA8)).bind λp134=>
     (zHr p84 0 p134).bind λp136=>
     some ((⟨x.Ord,(⟨y53.Name,y53.Attrs,y53.Kind,y53.Temp,y53.Mono,W64 (x.Point.Time-sp),x.Point.Time,y53.Int_,y53.Re,y53.Im,y53.Hist,W64 ((minU p48.1 (1048576:UInt64)).toNat:Int)⟩:zA8)⟩:zAc),p136.2)))) λj2=>
  if x.Point.Kind=1 then
  ((zCx p48.2.r p48.2.e p48.2.rows.ints).bind λp155=>
   j2 (⟨p155.2.1,(⟨p48.2.rows.ords,p48.2.rows.times,p48.2.rows.spans,p155.2.2.2,p48.2.rows.re,p48.2.rows.im,p48.2.rows.hists⟩:zAp),p155.2.2.1⟩:zA6) (⟨x.Point.Name,(srt x.Point.Attrs),x.Point.Kind,x.Point.Temp,x.Point.Mono,0,0,p155.1,(0:UInt64),(0:UInt64),h00,0⟩:zA8))
  else
  (if x.Point.Kind=4 then
   (if p48.2.e=0 then
    (jn (λ(y187:zA2) (y189:Int) (y190:zA6)=>
     ((zHm y190 y187 y189).bind λp195=>
      j2 p195.2 (⟨x.Point.Name,(srt x.Point.Attrs),x.Point.Kind,x.Point.Temp,x.Point.Mono,0,0,0,(0:UInt64),(0:UInt64),p195.1,0⟩:zA8))) λj3=>
     (zFl p48.2.rows.hists p48.2.r).bind λp228=>
     j3 p228.1 p228.2.1 (⟨p228.2.2.2,(⟨p48.2.rows.ords,p48.2.rows.times,p48.2.rows.spans,p48.2.rows.ints,p48.2.rows.re,p48.2.rows.im,p228.2.2.1⟩:zAp),p48.2.e⟩:zA6))
    else
    none)
   else
   (if x.Point.Kind=5 then
    ((zBw p48.2.r p48.2.e p48.2.rows.re).bind λp297=>
     (zBw p297.2.1 p297.2.2.1 p48.2.rows.im).bind λp308=>
     j2 (⟨p308.2.1,(⟨p48.2.rows.ords,p48.2.rows.times,p48.2.rows.spans,p48.2.rows.ints,p297.2.2.2,p308.2.2.2,p48.2.rows.hists⟩:zAp),p308.2.2.1⟩:zA6) (⟨x.Point.Name,(srt x.Point.Attrs),x.Point.Kind,x.Point.Temp,x.Point.Mono,0,0,0,p297.1,p308.1,h00,0⟩:zA8))
    else
    ((zBw p48.2.r p48.2.e p48.2.rows.re).bind λp345=>
     j2 (⟨p345.2.1,(⟨p48.2.rows.ords,p48.2.rows.times,p48.2.rows.spans,p48.2.rows.ints,p345.2.2.2,p48.2.rows.im,p48.2.rows.hists⟩:zAp),p345.2.2.1⟩:zA6) (⟨x.Point.Name,(srt x.Point.Attrs),x.Point.Kind,x.Point.Temp,x.Point.Mono,0,0,0,p345.1,(0:UInt64),h00,0⟩:zA8)))))=some (⟨x.Ord,zUb x.Point⟩,⟨RdO L (b+(smB x.Point.Flags.toNat++zNg acc x.Point).length),zPn (zM1 acc x),0⟩):=by
  intro sp ro b hsp hro hb hdb;have e1:=zPi hdb;have b1:=zPj hdb hb;rw [zf7 _ (by omega) hL hb hdb,zAh,zB2];dsimp only
  by_cases k1:x.Point.Kind=1
  ·have v1:zNg acc x.Point=zOg (zHe acc.I) x.Point.Int_:=by unfold zNg;rw [if_pos k1]
   rw [v1] at e1 ⊢;rw [if_pos k1,zU6 (Nat.le_trans ha.i.1 (by omega)) hr.i hL b1 e1.1,zAh];dsimp only;refine (zQ5 hx hl sp hsp _ _ ⟨x.Point.Name,srt x.Point.Attrs,x.Point.Kind,x.Point.Temp,x.Point.Mono,0,0,x.Point.Int_,0,0,h00,0⟩ ⟨rfl,rfl,rfl,rfl,rfl,rfl,(z2 (by omega)).symm,(z3 (by omega)).symm,(z4 (by omega)).symm⟩).trans ?_;unfold zPn;rw [hro];unfold zM1;dsimp only;rw [if_pos k1,if_pos (Or.inl k1),if_neg (show ¬x.Point.Kind=5 by omega),if_neg (show ¬x.Point.Kind=4 by omega),List.length_append,Nat.add_assoc]
  by_cases k4:x.Point.Kind=4
  ·have v1:zNg acc x.Point=hB acc.H.length (zO7 acc.H) x.Point.Hist:=by unfold zNg;rw [if_neg k1,if_pos k4]
   rw [v1] at e1 ⊢;rw [if_neg k1,if_pos k4,if_pos rfl,zB2,zc7 ha.h (by omega) hr.h hL b1 e1.1,zAh];dsimp only;unfold zHm;dsimp only;rw [if_pos rfl,zAh];dsimp only;refine (zQ5 hx hl sp hsp _ _ ⟨x.Point.Name,srt x.Point.Attrs,x.Point.Kind,x.Point.Temp,x.Point.Mono,0,0,0,0,0,x.Point.Hist,0⟩ ⟨rfl,rfl,rfl,rfl,rfl,(z1 (by omega)).symm,(z2 (by omega)).symm,(z3 (by omega)).symm,rfl⟩).trans ?_;unfold zPn;rw [hro];unfold zM1;dsimp only;rw [if_neg k1,if_pos (Or.inr k4),if_neg (show ¬x.Point.Kind=5 by omega),if_pos k4,List.length_append,Nat.add_assoc]
  by_cases k5:x.Point.Kind=5
  ·have v1:zNg acc x.Point=flB acc.A x.Point.Re++flB acc.B x.Point.Im:=by unfold zNg;rw [if_neg k1,if_neg k4,if_pos k5]
   rw [v1,List.append_assoc] at e1;rw [v1];have e2:=zPi e1.1;have b2:=zPj e1.1 b1;rw [if_neg k1,if_neg k4,if_pos k5,zW1 (Nat.le_trans ha.re (by omega)) hL b1 e1.1,zAh];dsimp only;rw [zW1 (Nat.le_trans ha.im (by omega)) hL b2 e2.1,zAh];dsimp only;refine (zQ5 hx hl sp hsp _ _ ⟨x.Point.Name,srt x.Point.Attrs,x.Point.Kind,x.Point.Temp,x.Point.Mono,0,0,0,x.Point.Re,x.Point.Im,h00,0⟩ ⟨rfl,rfl,rfl,rfl,rfl,(z1 (by omega)).symm,rfl,rfl,(z4 (by omega)).symm⟩).trans ?_;unfold zPn;rw [hro];unfold zM1;dsimp only;rw [if_neg k1,if_neg (show ¬(x.Point.Kind=1∨x.Point.Kind=4) by omega),if_pos k5,if_neg k4,List.length_append,List.length_append,← Nat.add_assoc,← Nat.add_assoc]
  ·have v1:zNg acc x.Point=flB acc.A x.Point.Re:=by unfold zNg;rw [if_neg k1,if_neg k4,if_neg k5]
   rw [v1] at e1 ⊢;rw [if_neg k1,if_neg k4,if_neg k5,zW1 (Nat.le_trans ha.re (by omega)) hL b1 e1.1,zAh];dsimp only;refine (zQ5 hx hl sp hsp _ _ ⟨x.Point.Name,srt x.Point.Attrs,x.Point.Kind,x.Point.Temp,x.Point.Mono,0,0,0,x.Point.Re,0,h00,0⟩ ⟨rfl,rfl,rfl,rfl,rfl,(z1 (by omega)).symm,rfl,(z3 (by omega)).symm,(z4 (by omega)).symm⟩).trans ?_;unfold zPn;rw [hro];unfold zM1;dsimp only;rw [if_neg k1,if_neg (show ¬(x.Point.Kind=1∨x.Point.Kind=4) by omega),if_neg k5,if_neg k4,List.length_append,Nat.add_assoc]
 have hlen:∀ b:Nat,a+(zOg (zHe acc.O) x.Ord++(zOg (zHe acc.T) x.Point.Time++(zXi acc x.Point++(smB x.Point.Flags.toNat++zNg acc x.Point)))).length=b+(smB x.Point.Flags.toNat++zNg acc x.Point).length↔a+(zOg (zHe acc.O) x.Ord).length+(zOg (zHe acc.T) x.Point.Time).length+(zXi acc x.Point).length=b:=by
  intro b;simp only [List.length_append];omega
 by_cases k3:x.Point.Kind=3
 ·have s3:zXi acc x.Point=[]:=by unfold zXi;rw [if_pos k3]
  rw [if_neg (show ¬x.Point.Kind≠3 by omega)];rw [s3] at d2;refine (tail 0 (zHe acc.S) _ (by rw [if_pos k3]) (by unfold zM1;dsimp only;rw [if_pos k3]) a2 d2.1).trans ?_;rw [(hlen (a+(zOg (zHe acc.O) x.Ord).length+(zOg (zHe acc.T) x.Point.Time).length)).2 (by rw [s3];rfl)]
 ·have s3:zXi acc x.Point=zOg (zHe acc.S) (spn x.Point):=by unfold zXi;rw [if_neg k3]
  have es:spn x.Point=x.Point.Time-x.Point.Start:=by
   rw [if_neg k3] at tk;unfold spn;rw [zAs (by omega) (by omega)]
  rw [s3] at d2 d3 a3;rw [if_pos k3,zU6 (Nat.le_trans ha.s.1 (by omega)) (zbl _) hL a2 d2.1,zAh];dsimp only;refine (tail (spn x.Point) (zHe (acc.S++[spn x.Point])) _ (by rw [if_neg k3,es]) (by unfold zM1;dsimp only;rw [if_neg k3]) a3 d3.1).trans ?_;rw [(hlen (a+(zOg (zHe acc.O) x.Ord).length+(zOg (zHe acc.T) x.Point.Time).length+(zOg (zHe acc.S) (spn x.Point)).length)).2 (by rw [s3])]
end Go.Proofs.YthjhejgjcdajdaaGreatDoor
set_option maxRecDepth 20000
set_option linter.unusedVariables false
set_option linter.unusedSimpArgs false
namespace Go.Proofs.YthjhejgjcdajdaaGreatDoor
open Go Go.RowKit Go.Wk
theorem zb3 (p q:List It):∀ a:Acc,zSq a (p++q)=zSq a p++zSq (p.foldl zM1 a) q:=by
 induction p with
 | nil=>intro a;rw [List.nil_append,zSq,List.nil_append,List.foldl_nil]
 | cons x t ih=>intro a;rw [List.cons_append,zSq,ih,zSq,List.append_assoc,List.foldl_cons]
abbrev zW2 (x:It):It:=⟨x.Ord,zUb x.Point⟩
theorem zZi (M:List Bool):∀ (B:List Bool),B.length<8→((shl8 (zJ B) B.length).toNat:Int)=0:=by
 intro B hB;rw [zWj,zM (by omega),Nat.mul_assoc,← Nat.pow_add,show 8-B.length+B.length=8 by omega]
 omega
theorem zek {M:List Bool} (hM:M.length≤8000000000):zHa (zDn M) (M.length:Int)=some (some (RdO M 0),0):=by
 have hp:=zF4 M;unfold zHa;simp only [zB2];rw [if_neg (by omega),show (8:Int)=((8:Nat):Int) from rfl,zNh (by decide) (by omega),zAh,if_neg (by omega),zAh,zPp (by decide),zAh,zAs (z:=(M.length:Int)+7) (by omega) (by omega),show (M.length:Int)+7=((M.length+7:Nat):Int) by omega,zNh (by decide) (by omega),zAh,if_neg (show ¬((zDn M).length:Int)>(((M.length+7)/8:Nat):Int) by omega),zAh]
 have tail:(zEe (zDn M)).bind (λp22=>some ((some (⟨p22,(M.length:Int),0⟩:zA)),(0:Int)))=some (some (RdO M 0),0):=by
  rw [zRo _ (by omega),zAh];rfl
 by_cases h0:M.length%8=0
 ·have e1:(if ((zDn M).length:Int)=((M.length/8:Nat):Int) then decide (((M.length%8:Nat):Int)>0) else false)=false:=by
   split
   ·rw [decide_eq_false (by omega)]
   ·rfl
  rw [if_neg (show ¬((M.length%8:Nat):Int)>0 by omega)]
  by_cases h1:((zDn M).length:Int)=((M.length/8:Nat):Int)
  ·rw [if_pos h1,decide_eq_false (show ¬((M.length%8:Nat):Int)>0 by omega),if_neg (show ¬false=true by decide),if_neg (show ¬false=true by decide)];exact tail
  ·rw [if_neg h1,if_neg (show ¬false=true by decide),if_neg (show ¬false=true by decide)];exact tail
 ·obtain ⟨q,A,B,hAB,hA,hB,hBl,hq⟩:=cut8 M
  have hne:B≠[]:=by intro h;rw [h] at hBl;exact h0 hBl.symm
  have hpa:(zDn A).length=q:=by rw [zF4,hA];omega
  have hi:idx (zDn M) ((M.length/8:Nat):Int)=some (zJ B):=by
   rw [hAB,zOf q A B hA,zLh hne (by omega),← hAB,← hq,← hpa];exact zFy _ _ _
  rw [if_neg (show ¬((zDn M).length:Int)=((M.length/8:Nat):Int) by omega),if_neg (show ¬false=true by decide),if_pos (show ((M.length%8:Nat):Int)>0 by omega),zAh,hi,zAh,zAh,zCk (by omega),← hBl,zZi M B hB,decide_eq_false (by decide),if_neg (show ¬false=true by decide)];exact tail
theorem zb0 {a b:Pt} (ha:pcE a=0) (hb:pcE b=0) (h:zMe a=zMe b):zaz a=zaz b:=by
 obtain ⟨h1,h2,h3,h4,h5⟩:=(zes (zNv ha) (zNv hb)).1 h;unfold zaz;rw [h1,h2,h3,h4,h5]
structure zY0 (p0:Pt) (l:List It):Prop where
 pz:pcE p0=0
 az:p0.Attrs.length≤20
 n:l.length≤128
 ok:∀ x∈l,ItP x∧zMe x.Point=zMe p0
 inc:∀ q x r,q++x::r=l→zPy q<x.Ord
end Go.Proofs.YthjhejgjcdajdaaGreatDoor
set_option maxRecDepth 20000
set_option linter.unusedVariables false
set_option linter.unusedSimpArgs false
namespace Go.Proofs.YthjhejgjcdajdaaGreatDoor
open Go Go.RowKit Go.Wk
theorem zY0.nil {p:Pt} (h:pcE p=0) (ha:p.Attrs.length≤20):zY0 p []:=⟨h,ha,by simp,by simp,λq x r e=>by simp at e⟩
theorem zY0.snoc {p:Pt} {l:List It} {x:It} (h:zY0 p l) (hn:l.length<128) (hx:ItP x) (hk:zMe x.Point=zMe p) (hl:zPy l<x.Ord):zY0 p (l++[x]):=by
 refine ⟨h.pz,h.az,by simp;omega,λy hy=>(List.mem_append.1 hy).elim (h.ok y) (λe=>by rw [List.mem_singleton.1 e];exact ⟨hx,hk⟩),?_⟩;intro q y r e
 by_cases hr:r=[]
 ·subst hr
  obtain ⟨e1,e2⟩:=List.append_inj' e rfl
  rw [e1];injection e2 with e3;rw [e3];exact hl
 ·obtain ⟨t,z,rfl⟩:∃ t z,r=t++[z]:=⟨r.dropLast,r.getLast hr,(List.dropLast_concat_getLast hr).symm⟩
  have e':(q++y::t)++[z]=l++[x]:=by rw [← e];simp
  exact h.inc q y t (List.append_inj' e' rfl).1
end Go.Proofs.YthjhejgjcdajdaaGreatDoor
set_option maxRecDepth 20000
namespace Go.Proofs.YthjhejgjcdajdaaGreatDoor
open Go Go.RowKit Go.Wk
theorem zel (b:List UInt8) (hl:b.length≤1000000000):zHi b=some (⟨b,0,0⟩,b):=by
 unfold zHi;rw [zRo _ (by omega),zAh]
theorem zZy {p0:Pt} {l:List It} (h:zY0 p0 l):zJm (chB (zMe p0) l.length (zE4 l))=some (l.map zW2,0,chB (zMe p0) l.length (zE4 l)):=by
 have okR:∀ x∈l,ItR x:=λx hx=>(h.ok x hx).1.r
 have hM:=zQ7 okR;have hn:=h.n
 have hk:(zMe p0).length≤420:=by
  have:=zRd (zNv h.pz).c;unfold zMe;simp only [List.length_append,List.length_cons,List.length_nil] at this ⊢;omega
 have hpl:=zF4 (zE4 l);generalize hkk:zMe p0=k at *
 have hb:(chB k l.length (zE4 l)).length≤10000000:=by
  have:=zX5 l.length (zE4 l) (k:=k) (by omega);unfold chB;rw [List.length_append];omega
 have b0:chB k l.length (zE4 l)=[]++(zRl k++(enc (UInt64.ofNat l.length)++(enc (UInt64.ofNat (zE4 l).length)++zDn (zE4 l)))):=by unfold chB hdB;simp
 have b1:chB k l.length (zE4 l)=zRl k++(enc (UInt64.ofNat l.length)++(enc (UInt64.ofNat (zE4 l).length)++zDn (zE4 l))):=by unfold chB hdB;simp
 have b2:chB k l.length (zE4 l)=(zRl k++enc (UInt64.ofNat l.length))++(enc (UInt64.ofNat (zE4 l).length)++zDn (zE4 l)):=by unfold chB hdB;simp
 have b3:chB k l.length (zE4 l)=hdB k l.length (zE4 l)++(zDn (zE4 l)++[]):=by unfold chB;simp
 have b4:(hdB k l.length (zE4 l)++zDn (zE4 l)).length=(chB k l.length (zE4 l)).length:=rfl;generalize chB k l.length (zE4 l)=B at *;have hc:zId (zaz p0)=some (zaz p0):=zc4 _ ⟨by show (srt p0.Attrs).length≤20;rw [zOb];exact h.az,by simp,by simp⟩;unfold zJm;rw [zel _ (by omega),zAh];dsimp only;rw [ show zFg ⟨B,0,0⟩ 420=_ from zb4 [] k _ 420 b0 rfl (by omega) (by omega) (by omega),zAh];dsimp only;rw [List.nil_append,show zCe ⟨B,((zRl k).length:Nat),0⟩ 128=_ from zRx (zRl k) _ l.length 128 b1 rfl (by omega) hn (by omega),zAh];dsimp only;rw [show zCe ⟨B,((zRl k++enc (UInt64.ofNat l.length)).length:Nat),0⟩ 16777216=_ from zRx (zRl k++enc (UInt64.ofNat l.length)) _ (zE4 l).length 16777216 b2 rfl (by omega) (by omega) (by omega),zAh];dsimp only
 have ez:quoZ (W64 (((zE4 l).length:Int)+7)) 8=some ((zDn (zE4 l)).length:Int):=by
  rw [zAs (by omega) (by omega),show ((zE4 l).length:Int)+7=(((zE4 l).length+7:Nat):Int) by omega,show (8:Int)=((8:Nat):Int) from rfl,zNh (by decide) (by omega),hpl]
 rw [ez,zAh,show zRl k++enc (UInt64.ofNat l.length)++enc (UInt64.ofNat (zE4 l).length)=hdB k l.length (zE4 l) from rfl,zd6 (hdB k l.length (zE4 l)) (zDn (zE4 l)) [] b3 rfl (by omega),zAh];dsimp only;rw [b4,zf2 _ (by omega),zAh,if_neg (show ¬(0:Int)≠0 by decide),zYn k (by omega),zAh,← hkk,zb h.pz];dsimp only;rw [if_neg (show ¬(0:Int)≠0 by decide),zek (by omega),zAh];dsimp only;rw [if_neg (show ¬(0:Int)≠0 by decide)]
 have enr:zGd=some (zPn zfk):=by unfold zGd zHf zKi zIh;rfl
 rw [enr,zAh,zAh,zB2];obtain ⟨f,hf⟩:=zJs 200 (by omega);have key:∀ (r q:List It) (f:Nat),q++r=l→r.length<f→∀ (p14:Int×zAb) (p33:Pt×Int) (j:List It→zA6→Option (List It×Int×List UInt8)),p14.1=(l.length:Int)→p33.1=zaz p0 →
  zDm p14 p33 j f (q.map zW2) (zPy q) ((q.length:Nat):Int) ⟨RdO (zE4 l) (zE4 q).length,zPn (zW6 q),0⟩=j (l.map zW2) ⟨RdO (zE4 l) (zE4 l).length,zPn (zW6 l),0⟩:=by
  intro r
  induction r with
  | nil=>
   intro q f hq hf p14 p33 j h1 h2;obtain ⟨f,rfl⟩:∃ m,f=m+1:=⟨f-1,by omega⟩;rw [List.append_nil] at hq;subst hq;rw [zDm,if_neg (by omega)]
  | cons x r ih=>
   intro q f hq hf p14 p33 j h1 h2;obtain ⟨f,rfl⟩:∃ m,f=m+1:=⟨f-1,by omega⟩;have hql:=congrArg List.length hq;simp only [List.length_append,List.length_cons] at hql hf
   have hxl:x∈l:=by rw [← hq];simp
   obtain ⟨hx,hxk⟩:=h.ok x hxl
   have okq:∀ y∈q,ItR y:=λy hy=>okR y (by rw [← hq];simp [hy])
   have hq2:(q++[x])++r=l:=by rw [List.append_assoc];exact hq
   have hbits:zE4 l=zE4 q++(itB (zW6 q) x++zSq (zM1 (zW6 q) x) r):=by
    rw [← hq];unfold zE4;rw [zb3,zSq];rfl
   have hd:(zE4 l).drop (zE4 q).length=itB (zW6 q) x++zSq (zM1 (zW6 q) x) r:=by rw [hbits,List.drop_left]
   have hal:(zE4 q).length≤(zE4 l).length:=by rw [hbits,List.length_append];omega
   have hs:zaz x.Point=zaz p0:=zb0 hx.pc h.pz (by rw [hxk,hkk]);have hnx:=zc3 (last:=zPy q) (zW5 okq) (by omega) hx (by omega) hal hd (h.inc q x r hq);rw [hs] at hnx;rw [zDm,if_pos (by omega),h2,hc,zAh,hnx,zAh];dsimp only;rw [if_neg (show ¬(0:Int)≠0 by decide),za6 (by simp;omega),zAh,zEx (by omega)];have:=ih (q++[x]) f hq2 (by omega) p14 p33 j h1 h2;rw [List.map_append,zQp,List.length_append,zP,List.length_append,zSn] at this;exact this
 refine (key l [] fuel rfl (by rw [hf];omega) _ _ _ rfl rfl).trans ?_;unfold zC1;dsimp only;rw [zAs (by omega) (by omega),zAh,if_neg (by omega)]
theorem zW4 {p:Pt} {l:List It} {x:It} (h:zY0 p l) (hi:okI x.Point.Int_) (e:zY (zMe p) l 4611686018427387904 x=0):zY0 p (l++[x]):=by
 unfold zY at e
 by_cases hp:pcE x.Point≠0
 ·rw [if_pos hp] at e;exact (hp e).elim
 rw [if_neg hp] at e
 by_cases hk:zMe x.Point≠zMe p
 ·rw [if_pos hk] at e;exact absurd e (by decide)
 rw [if_neg hk] at e
 by_cases ho:x.Ord<0∨x.Ord>4503599627370496
 ·rw [if_pos ho] at e;exact absurd e (by decide)
 rw [if_neg ho] at e
 by_cases hl:x.Ord≤zPy l
 ·rw [if_pos hl] at e;exact absurd e (by decide)
 rw [if_neg hl] at e
 by_cases hn:l.length=128
 ·rw [if_pos hn] at e;exact absurd e (by decide)
 have:=h.n;exact h.snoc (by omega) ⟨by omega,ho,hi⟩ (Classical.not_not.1 hk) (by omega)
def pkE (k:List UInt8):List It→List It→Int
 | _,[]=>0
 | q,x::r=>if zY k q 4611686018427387904 x=0 then pkE k (q++[x]) r else zY k q 4611686018427387904 x
theorem zgj {p:Pt}:∀ (r q:List It),zY0 p q→(∀ x∈r,okI x.Point.Int_)→pkE (zMe p) q r=0→zY0 p (q++r):=by
 intro r
 induction r with
 | nil=>intro q h _ _;rw [List.append_nil];exact h
 | cons x r ih=>
  intro q h hi e;rw [pkE] at e
  by_cases ha:zY (zMe p) q 4611686018427387904 x=0
  ·rw [if_pos ha] at e
   have:=ih (q++[x]) (zW4 h (hi x (by simp)) ha) (λy hy=>hi y (by simp [hy])) e;rwa [List.append_assoc] at this
  ·rw [if_neg ha] at e;exact (ha e).elim
theorem zcd (l:List It) {A B C D E F G H I J K L:It→Prop}
 (k0:l.length≤maxLen∧∀ z∈l,A z∧(B z∧C z∧D z∧E z∧F z∧G z∧H z∧(Lit.int .i64 z.Point.Int_).wf=true∧I z∧J z∧K z∧L z)):zGb l=some true:=by
 have hi:∀ x∈l,okI x.Point.Int_:=λx hx=>wf_ok (k0.2 x hx).2.2.2.2.2.2.2.2.1
 clear k0;unfold zGb;rw [zce,zAh,if_neg (by decide),zen _ (by omega),zAh]
 by_cases hc:((!(decide ((l.length:Int)≤12)&&l.all λx=>zPx x.Point))=true)∨((l.length:Int)=0)
 ·rw [if_pos hc]
 rw [if_neg hc]
 have hlt:(decide ((l.length:Int)≤12)&&l.all λx=>zPx x.Point)=true:=by
  cases hb:(decide ((l.length:Int)≤12)&&l.all λx=>zPx x.Point) with
  | true=>rfl
  | false=>exact (hc (Or.inl (by rw [hb];rfl))).elim
 have hl0:¬(l.length:Int)=0:=λh=>hc (Or.inr h)
 have hll:=of_decide_eq_true ((Bool.and_eq_true _ _).mp hlt).1;have hla:=List.all_eq_true.1 ((Bool.and_eq_true _ _).mp hlt).2;clear hc hlt
 obtain ⟨x0,l0,rfl⟩:∃ a t,l=a::t:=by
  cases l with
  | nil=>exact (hl0 rfl).elim
  | cons a t=>exact ⟨a,t,rfl⟩
 generalize hL:x0::l0=l at *
 have hx0:idx l 0=some x0:=by rw [← hL];rfl
 have hm0:x0∈l:=by rw [← hL];simp
 obtain ⟨f0,c1,c2⟩:=zOy (hla x0 hm0);obtain ⟨fu,hfu⟩:=zJs 200 (by omega);rw [hx0,zAh,zVb _ (by omega) (by omega),zAh,zAh,zZ _ (by omega) (by omega),zAh,zB2];unfold zMn;rw [if_neg hl0,hx0,zAh,zbq _ _ (by omega) (by omega),zAh];unfold zde
 by_cases hp:pcE x0.Point=0
 ·rw [if_pos hp,if_pos hp]
  dsimp only;have k2:∀ (r q:List It) (f:Nat) (p35:List UInt8×Int) (j:Int→Option Bool),p35.1=zMe x0.Point→q++r=l→r.length<f→zY0 x0.Point q →
   zAz l p35 j f 0 ((q.length:Nat):Int)=j (pkE (zMe x0.Point) q r):=by
   intro r
   induction r with
   | nil=>
    intro q f p35 j hk hq hf hI;obtain ⟨f,rfl⟩:∃ m,f=m+1:=⟨f-1,by omega⟩;rw [List.append_nil] at hq;subst hq;rw [zAz,if_neg (by omega),pkE]
   | cons x r ih=>
    intro q f p35 j hk hq hf hI;obtain ⟨f,rfl⟩:∃ m,f=m+1:=⟨f-1,by omega⟩;have hql:=congrArg List.length hq;simp only [List.length_append,List.length_cons] at hql hf
    have hxl:x∈l:=by rw [← hq];simp
    obtain ⟨hxf,hx1,hx2⟩:=zOy (hla x hxl)
    have hcut:zNt l 0 ((q.length:Nat):Int)=some q:=by rw [← hq];exact zU4 _ _
    have hix:idx l ((q.length:Nat):Int)=some x:=by rw [← hq];exact zFy _ _ _
    have hkl:=zVs hp;rw [zAz,if_pos ⟨by omega,rfl⟩,hcut,zAh,hix,zAh,hk,zec _ (by omega) (by omega) (λy hy=>(hI.ok y hy).1.r) (hi x hxl) zZ3 (by omega) (by omega),zAh,zEx (by omega),pkE]
    by_cases ha:zY (zMe x0.Point) q 4611686018427387904 x=0
    ·rw [if_pos ha,ha]
     have:=ih (q++[x]) f p35 j hk (by rw [List.append_assoc];exact hq) (by omega) (zW4 hI (hi x hxl) ha);rw [List.length_append] at this;exact this
    ·rw [if_neg ha]
     obtain ⟨f,rfl⟩:∃ m,f=m+1:=⟨f-1,by omega⟩;rw [zAz,if_neg (λk=>ha k.2)]
  have kp:∀ (r q:List It) (f:Nat) (j:Option zAg→Option (List UInt8×Int)),q++r=l→r.length<f→zY0 x0.Point q →
   zFd l j f ((q.length:Nat):Int) (some (chS (zMe x0.Point) 4611686018427387904 q))=if pkE (zMe x0.Point) q r=0 then j (some (chS (zMe x0.Point) 4611686018427387904 l)) else some ([],pkE (zMe x0.Point) q r):=by
   intro r
   induction r with
   | nil=>
    intro q f j hq hf hI;obtain ⟨f,rfl⟩:∃ m,f=m+1:=⟨f-1,by omega⟩;rw [List.append_nil] at hq;subst hq;rw [zFd,if_neg (by omega),pkE,if_pos rfl]
   | cons x r ih=>
    intro q f j hq hf hI;obtain ⟨f,rfl⟩:∃ m,f=m+1:=⟨f-1,by omega⟩;have hql:=congrArg List.length hq;simp only [List.length_append,List.length_cons] at hql hf
    have hxl:x∈l:=by rw [← hq];simp
    obtain ⟨hxf,hx1,hx2⟩:=zOy (hla x hxl)
    have hix:idx l ((q.length:Nat):Int)=some x:=by rw [← hq];exact zFy _ _ _
    have hkl:=zVs hp;rw [zFd,if_pos (by omega),hix,zAh,zAh,zf8 _ (by omega) (by omega) (λy hy=>(hI.ok y hy).1.r) (hi x hxl) zZ3 (by omega) (by omega),zAh,zEx (by omega),pkE];dsimp only
    by_cases ha:zY (zMe x0.Point) q 4611686018427387904 x=0
    ·rw [if_neg (show ¬zY (zMe x0.Point) q 4611686018427387904 x≠0 from λk=>k ha),if_pos ha,if_pos ha]
     have:=ih (q++[x]) f j (by rw [List.append_assoc];exact hq) (by omega) (zW4 hI (hi x hxl) ha);rw [List.length_append] at this;exact this
    ·rw [if_pos ha,if_neg ha,if_neg ha]
  have hI0:=zY0.nil hp f0.a;rw [zB2];rw [if_neg (show ¬(0:Int)≠0 by decide),hp];refine (k2 l [] fuel (zMe x0.Point,0) _ rfl rfl (by rw [hfu];omega) hI0).trans ?_;have hpk:=kp l [] fuel (λy25=>(y25).bind λz28=>(zGe z28).bind λp27=>some (p27,0)) rfl (by rw [hfu];omega) hI0;rw [show ((([]:List It).length:Nat):Int)=0 from rfl] at hpk;rw [hpk]
  by_cases he:pkE (zMe x0.Point) [] l=0
  ·have hI:=zgj l [] hI0 hi he
   rw [List.nil_append] at hI;have hb:=zQ7 (λy hy=>(hI.ok y hy).1.r);have hkl:=zVs hp;rw [if_pos he,he,zAh,za0 (by omega) (by omega),zAh,zAh];dsimp only;rw [if_neg (by simp),zZy hI,zAh];dsimp only;rw [zB2]
   have hbl:(chB (zMe x0.Point) l.length (zE4 l)).length≤200000:=by
    have hpl:=zF4 (zE4 l);have e1:=zG6 (UInt64.ofNat (zMe x0.Point).length);have e2:=zG6 (UInt64.ofNat l.length);have e3:=zG6 (UInt64.ofNat (zE4 l).length);unfold chB hdB zRl;simp only [List.length_append];omega
   generalize chB (zMe x0.Point) l.length (zE4 l)=b at *
   have kz:∀ (r i f:Nat) (y:List UInt8) (p39:List UInt8×Int) (j:Unit→Option Bool),i+r=p39.1.length→p39.1.length≤200000→r<f→y.length=p39.1.length→zBa p39 j f y (i:Int)=j ():=by
    intro r
    induction r with
    | zero=>
     intro i f y p39 j h0 h1 hf hy;obtain ⟨f,rfl⟩:∃ m,f=m+1:=⟨f-1,by omega⟩;rw [zBa,if_neg (by omega)]
    | succ r ih=>
     intro i f y p39 j h0 h1 hf hy;obtain ⟨f,rfl⟩:∃ m,f=m+1:=⟨f-1,by omega⟩;rw [zBa,if_pos (by omega),zSb (show i<y.length by omega),zAh,zEx (by omega)];exact ih (i+1) f _ p39 j (by omega) h1 (by omega) (by rw [zEi];exact hy)
   obtain ⟨fv,hfv⟩:=zJs 200001 (by omega);refine (kz b.length 0 fuel b (b,0) _ (by dsimp only;omega) hbl (by rw [hfv];omega) rfl).trans ?_;rw [zB2,if_pos rfl];unfold zHt;rw [if_neg (by rw [List.length_map];simp),zB2]
   have hs:∀ (r q:List It) (f:Nat) (j:Unit→Option Bool),q++r=l→r.length<f→zBx l (l.map zW2) j f ((q.length:Nat):Int)=j ():=by
    intro r
    induction r with
    | nil=>
     intro q f j hq hf;obtain ⟨f,rfl⟩:∃ m,f=m+1:=⟨f-1,by omega⟩;rw [List.append_nil] at hq;rw [zBx,if_neg (by rw [← hq];omega)]
    | cons x r ih=>
     intro q f j hq hf;obtain ⟨f,rfl⟩:∃ m,f=m+1:=⟨f-1,by omega⟩;have hql:=congrArg List.length hq;simp only [List.length_append,List.length_cons] at hql hf
     have hix:idx l ((q.length:Nat):Int)=some x:=by rw [← hq];exact zFy _ _ _
     have hiy:idx (l.map zW2) ((q.length:Nat):Int)=some (zW2 x):=by
      rw [← hq,List.map_append,List.map_cons,show ((q.length:Nat):Int)=(((q.map zW2).length:Nat):Int) by rw [List.length_map]];exact zFy _ _ _
     obtain ⟨hxf,hx1,hx2⟩:=zOy (hla x (by rw [← hq];simp))
     have hsm:zEn x.Point (zUb x.Point)=some true:=by
      rw [zbc hxf (show Few (zUb x.Point) from ⟨by show (srt x.Point.Attrs).length≤20;rw [zOb];exact hxf.a,hxf.p,hxf.n⟩),decide_eq_true];exact ⟨rfl,(ze _).symm,rfl,rfl,rfl,rfl,rfl,rfl,rfl,rfl,rfl,rfl⟩
     rw [zBx,if_pos (by omega),zB2,hix,hiy,zAh,zAh,if_neg (by simp),zAh,zAh];dsimp only;rw [hsm,zAh,zEx (by omega)];have:=ih (q++[x]) f j (by rw [List.append_assoc];exact hq) (by omega);rw [List.length_append] at this;exact this
   have:=hs l [] fuel (λ_=>some true) rfl (by rw [hfu];omega);rw [show ((([]:List It).length:Nat):Int)=0 from rfl] at this;rw [this,zAh]
  ·rw [if_neg he,zAh]
   dsimp only;rw [if_pos (Or.inr he)];simp
 ·rw [if_neg hp,if_neg hp]
  obtain ⟨f,hf⟩:∃ m,fuel=m+1:=⟨fu+199,by omega⟩;rw [hf,zAz,if_neg (λk=>hp k.2)];dsimp only;rw [if_pos hp,zAh];dsimp only;rw [if_pos (Or.inr hp)];simp
end Go.Proofs.YthjhejgjcdajdaaGreatDoor
