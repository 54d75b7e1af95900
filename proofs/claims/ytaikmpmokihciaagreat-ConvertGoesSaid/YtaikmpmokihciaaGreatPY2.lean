import Derived.Test.YtaikmpmokihciaaGreatPY1
import Derived.Test.YtaikmpmokihciaaGreatVY2
set_option maxRecDepth 20000
set_option linter.unusedVariables false
set_option linter.unusedSimpArgs false
namespace Go.Proofs.YtaikmpmokihciaaGreat
open Go Go.RowKit Go.Wk
def gA (s:T_api_Side) (x:Int):UInt64:=if s.Offset≤x then (s.Counts[(x-s.Offset).toNat]?).getD 0 else 0
theorem At_gA {s:T_api_Side} (hs:BS s) {x:Int} (h1:-4000000000≤x) (h2:x≤4000000000):m_hist_At s x=some (gA s x):=by
 have:=hs.l;have:=hs.a;have:=hs.b;unfold m_hist_At gA;rw [jn_eq]
 by_cases h:x<s.Offset
 ·rw [if_pos h,if_neg (by omega)]
  rfl
 ·rw [if_neg h,if_pos (by omega)]
  dsimp only
  have hl:((toU64 (s.Counts.length:Int)).toNat:Int)=s.Counts.length:=by
   unfold toU64;rw [UInt64.toNat_ofNat']
   omega
  rw [hl,toU64_sub,W64_id (z:=x-s.Offset) (by omega) (by omega)];have e:(x-s.Offset)%18446744073709551616=x-s.Offset:=Int.emod_eq_of_lt (by omega) (by omega);rw [e]
  by_cases h3:x-s.Offset≥s.Counts.length
  ·rw [if_pos (by simpa using h3),List.getElem?_eq_none (by omega)]
   rfl
  ·rw [if_neg (by simpa using h3)]
   obtain ⟨k,hk⟩:∃ k:Nat,x-s.Offset=(k:Int):=⟨(x-s.Offset).toNat,by omega⟩;rw [hk,Int.toNat_natCast,idx_nat,List.getElem?_eq_getElem (by omega),bndS]
   rfl
theorem gA_nil {s:T_api_Side} (h:s.Counts=[]) (x:Int):gA s x=0:=by
 unfold gA
 split
 ·rw [h];rfl
 ·rfl
theorem pad_eq {s:T_api_Side} {f:Int} {n:Nat} (h:s.Counts=[]∨(f≤s.Offset∧s.Offset+s.Counts.length≤f+n)) :
 sumN ((List.range n).map λ(j:Nat)=>gA s (f+(j:Int)))=sumN s.Counts:=by
 rcases h with h|⟨h1,h2⟩
 ·have:((List.range n).map λ(j:Nat)=>gA s (f+(j:Int)))=List.replicate n 0:=by
   rw [List.eq_replicate_iff];refine ⟨by simp,λb hb=>?_⟩;obtain ⟨j,_,rfl⟩:=List.mem_map.1 hb;exact gA_nil h _
  rw [this,sumN_rep,h];rfl
 ·have:((List.range n).map λ(j:Nat)=>gA s (f+(j:Int)))=List.replicate (s.Offset-f).toNat 0++(s.Counts++List.replicate (f+n-(s.Offset+s.Counts.length)).toNat 0):=by
   apply List.ext_getElem?
   intro j;rw [List.getElem?_map]
   by_cases hj:j<n
   ·rw [List.getElem?_range hj]
    show some (gA s (f+(j:Int)))=_;unfold gA
    by_cases c1:j<(s.Offset-f).toNat
    ·rw [if_neg (by omega),List.getElem?_append_left (by simpa using c1),List.getElem?_replicate,if_pos c1]
    ·rw [if_pos (by omega),List.getElem?_append_right (by simpa using c1),List.length_replicate]
     have e:(f+(j:Int)-s.Offset).toNat=j-(s.Offset-f).toNat:=by omega
     rw [e]
     by_cases c2:j-(s.Offset-f).toNat<s.Counts.length
     ·rw [List.getElem?_append_left c2,List.getElem?_eq_getElem c2];rfl
     ·rw [List.getElem?_append_right (by omega),List.getElem?_eq_none (by omega),List.getElem?_replicate,if_pos (by omega)]
      rfl
   ·rw [List.getElem?_eq_none (by simpa using hj),List.getElem?_eq_none (by simp;omega)]
    rfl
  rw [this,sumN_app,sumN_app,sumN_rep,sumN_rep];omega
structure CovR (u v:T_api_Side) (q:Int) (n:Nat):Prop where
 a:u.Counts=[]∨(q≤u.Offset∧u.Offset+u.Counts.length≤q+n)
 b:v.Counts=[]∨(q≤v.Offset∧v.Offset+v.Counts.length≤q+n)
 z:n=0→u.Counts=[]∧v.Counts=[]
 f:0<n→(u.Counts≠[]∧q=u.Offset)∨(v.Counts≠[]∧q=v.Offset)
 g:0<n→(u.Counts≠[]∧q+n=u.Offset+u.Counts.length)∨(v.Counts≠[]∧q+n=v.Offset+v.Counts.length)
 lo:-1073741824≤q
 hi:q≤1073741824
 e:0<n→q+n-1≤1073741824
theorem cover_ok {a b:T_api_Side} (ha:RS a) (hb:RS b):Tot (λr:Int×Int=>∃ n:Nat,r.2=n∧CovR a b r.1 n) (m_fold_cover a b):=by
 have:=ha.b.l;have:=ha.b.a;have:=ha.b.b;have:=hb.b.l;have:=hb.b.a;have:=hb.b.b
 have ne:∀ l:List UInt64,l≠[]↔0<l.length:=λl=>List.length_pos_iff.symm
 unfold m_fold_cover
 refine Tot.ite (λh1=>?_) λh1=>?_
 ·have h1':a.Counts=[]:=List.eq_nil_of_length_eq_zero (by omega)
  refine .some ⟨b.Counts.length,rfl,.inl h1',.inr ⟨by dsimp only;omega,by dsimp only;omega⟩,λh=>⟨h1',List.eq_nil_of_length_eq_zero h⟩,λh=>.inr ⟨(ne _).2 h,rfl⟩,λh=>.inr ⟨(ne _).2 h,rfl⟩,by dsimp only;omega,by dsimp only;omega,λh=>by have:=hb.e ((ne _).2 h);dsimp only;omega⟩
 ·have n1:a.Counts≠[]:=λh=>h1 (by rw [h];rfl)
  have e1:=ha.e n1
  refine Tot.ite (λh2=>?_) λh2=>?_
  ·have h2':b.Counts=[]:=List.eq_nil_of_length_eq_zero (by omega)
   refine .some ⟨a.Counts.length,rfl,.inr ⟨by dsimp only;omega,by dsimp only;omega⟩,.inl h2',λh=>absurd (List.eq_nil_of_length_eq_zero h) n1,λh=>.inl ⟨n1,rfl⟩,λh=>.inl ⟨n1,rfl⟩,by dsimp only;omega,by dsimp only;omega,λh=>by dsimp only;omega⟩
  ·have n2:b.Counts≠[]:=λh=>h2 (by rw [h];rfl)
   have e2:=hb.e n2;have l1:=(ne _).1 n1;have l2:=(ne _).1 n2;unfold m_fold_ends;rw [bndS,bndS];dsimp only;rw [W64_id (z:=a.Offset+_) (by omega) (by omega),W64_id (z:=b.Offset+_) (by omega) (by omega),W64_id (by omega) (by omega)];refine .some ⟨(max (a.Offset+a.Counts.length) (b.Offset+b.Counts.length)-min a.Offset b.Offset).toNat,by dsimp only;omega,.inr ⟨by dsimp only;omega,by dsimp only;omega⟩,.inr ⟨by dsimp only;omega,by dsimp only;omega⟩,λh=>by exfalso;omega,λh=>?_,λh=>?_,by dsimp only;omega,by dsimp only;omega,λh=>by dsimp only;omega⟩
   ·dsimp only
    rcases Int.le_total a.Offset b.Offset with c|c
    ·exact .inl ⟨n1,by omega⟩
    ·exact .inr ⟨n2,by omega⟩
   ·dsimp only
    rcases Int.le_total (a.Offset+a.Counts.length) (b.Offset+b.Counts.length) with c|c
    ·exact .inr ⟨n2,by omega⟩
    ·exact .inl ⟨n1,by omega⟩
theorem gA_get {s:T_api_Side} {k:Nat} {x:UInt64} (h:s.Counts[k]?=some x):gA s (s.Offset+k)=x:=by
 unfold gA;rw [if_pos (by omega),show (s.Offset+(k:Int)-s.Offset).toNat=k by omega,h];rfl
theorem gA_le (s:T_api_Side) (x:Int):(gA s x).toNat≤sumN s.Counts:=by
 unfold gA
 split
 ·cases h:s.Counts[(x-s.Offset).toNat]? with
  | none=>exact Nat.zero_le _
  | some y=>exact sumN_le h
 ·exact Nat.zero_le _
theorem both_ok {a b:T_api_Side} (ha:RS a) (hb:RS b) {f:Int} {n:Nat} (hc:CovR a b f n) (hn:0<n) (h160:n≤160) (ht:sumN a.Counts+sumN b.Counts<2^64) :
 RS ⟨f,(List.range n).map λ(j:Nat)=>gA a (f+(j:Int))+gA b (f+(j:Int))⟩∧sumN ((List.range n).map λ(j:Nat)=>gA a (f+(j:Int))+gA b (f+(j:Int)))=sumN a.Counts+sumN b.Counts:=by
 have add:∀ x:Int,(gA a x+gA b x).toNat=(gA a x).toNat+(gA b x).toNat:=λx=>by
  have:=gA_le a x;have:=gA_le b x;exact u64_add (by omega)
 have nz:∀ x:Int,gA a x≠0∨gA b x≠0→gA a x+gA b x≠0:=λx h=>by
  rw [u64_nz,add]
  rcases h with h|h
  ·rw [u64_nz] at h;omega
  ·rw [u64_nz] at h;omega
 have hsum:∀ l:List Nat,sumN (l.map λ(j:Nat)=>gA a (f+(j:Int))+gA b (f+(j:Int)))=sumN (l.map λ(j:Nat)=>gA a (f+(j:Int)))+sumN (l.map λ(j:Nat)=>gA b (f+(j:Int))):=by
  intro l
  induction l with
  | nil=>rfl
  | cons x l ih=>simp only [List.map_cons,sumN_cons];rw [ih,add];omega
 have first:∀ s:T_api_Side,RS s→s.Counts≠[]→f=s.Offset→gA s (f+((0:Nat):Int))≠0:=λs hs h1 h2=>by
  have hl:0<s.Counts.length:=List.length_pos_iff.2 h1;rw [h2,gA_get (List.getElem?_eq_getElem hl)];exact hs.f _ (List.getElem?_eq_getElem hl)
 have last:∀ s:T_api_Side,RS s→s.Counts≠[]→f+n=s.Offset+s.Counts.length→gA s (f+((n-1:Nat):Int))≠0:=λs hs h1 h2=>by
  have hl:0<s.Counts.length:=List.length_pos_iff.2 h1;rw [show f+((n-1:Nat):Int)=s.Offset+((s.Counts.length-1:Nat):Int) by omega,gA_get (List.getElem?_eq_getElem (by omega:s.Counts.length-1<s.Counts.length))];exact hs.g _ (List.getElem?_eq_getElem (by omega))
 have hlo:=hc.lo;have hhi:=hc.hi;have he:=hc.e hn;refine ⟨⟨⟨by simpa using h160,hlo,hhi⟩,λh=>?_,λ_=>by simp only [List.length_map,List.length_range];omega,λx hx=>?_,λx hx=>?_⟩,?_⟩
 ·have:=congrArg List.length h
  simp only [List.length_map,List.length_range,List.length_nil] at this
  omega
 ·simp only [List.getElem?_map,List.getElem?_range hn,Option.map_some] at hx
  obtain rfl:=Option.some.inj hx;refine nz _ ?_
  rcases hc.f hn with ⟨h1,h2⟩|⟨h1,h2⟩
  ·exact .inl (first a ha h1 h2)
  ·exact .inr (first b hb h1 h2)
 ·simp only [List.length_map,List.length_range] at hx
  simp only [List.getElem?_map,List.getElem?_range (by omega:n-1<n),Option.map_some] at hx;obtain rfl:=Option.some.inj hx;refine nz _ ?_
  rcases hc.g hn with ⟨h1,h2⟩|⟨h1,h2⟩
  ·exact .inl (last a ha h1 h2)
  ·exact .inr (last b hb h1 h2)
 ·rw [hsum,pad_eq hc.a,pad_eq hc.b]
structure LevV (x y:T_api_Hist) (r:T_api_Hist×T_api_Hist×Int):Prop where
 l:LevR r
 a:r.2.2=0→RH r.1
 b:r.2.2=0→RH r.2.1
 s:r.2.2=0→r.1.Scale=r.2.1.Scale
 p:r.2.2=0→r.1.Pos.Counts.length≤x.Pos.Counts.length
 n:r.2.2=0→r.1.Neg.Counts.length≤x.Neg.Counts.length
 z:RH x→RH y→r.2.2=0
theorem LevV_tot {x y:T_api_Hist} (hx:LH x) (hy:LH y):Tot (LevV x y) (m_fold_Level x y):=by
 unfold m_fold_Level;obtain ⟨f,hf⟩:=fuelS 3 (by omega);rw [jn_eq,hf];rw [m_fold_Level_L1,if_pos (by omega)];rw [show idx ([x,y]:List T_api_Hist) 0=some x from rfl,bndS,HCheck_eq x hx.p hx.n,bndS]
 refine Tot.ite (λh=>.some ⟨⟨.z,.z,.z,.z,.z,.z⟩,λh2=>absurd h2 h,λh2=>absurd h2 h,λh2=>absurd h2 h,λh2=>absurd h2 h,λh2=>absurd h2 h,λh2 _=>absurd h2.to h⟩) λh1=>?_
 rw [show W64 (0+1)=1 from rfl,m_fold_Level_L1,if_pos (by omega),show idx ([x,y]:List T_api_Hist) 1=some y from rfl,bndS,HCheck_eq y hy.p hy.n,bndS]
 refine Tot.ite (λh=>.some ⟨⟨.z,.z,.z,.z,.z,.z⟩,λh2=>absurd h2 h,λh2=>absurd h2 h,λh2=>absurd h2 h,λh2=>absurd h2 h,λh2=>absurd h2 h,λ_ h2=>absurd h2.to h⟩) λh2=>?_
 rw [show W64 (1+1)=2 from rfl,m_fold_Level_L1,if_neg (by omega)];have rx:=RH.of (Decidable.not_not.1 h1);have ry:=RH.of (Decidable.not_not.1 h2);have:=rx.lo;have:=rx.hi;have:=ry.lo;have:=ry.hi;rw [W64_id (z:=x.Scale-_) (by omega) (by omega),W64_id (z:=y.Scale-_) (by omega) (by omega)]
 refine (DownV_tot rx (by omega) (by omega)).bind λp hp=>(DownV_tot ry (by omega) (by omega)).bind λq hq=>.some ⟨⟨hp.v.l,hq.v.l,hp.v.p.b,hp.v.n.b,hq.v.p.b,hq.v.n.b⟩,λ_=>hp.v,λ_=>hq.v,λ_=>?_,λ_=>hp.p,λ_=>hp.n,λ_ _=>rfl⟩
 show p.1.Scale=q.1.Scale;rw [hp.s,hq.s];omega
theorem merge_L {a b:T_api_Side} (ha:BS a) (hb:BS b) {f:Int} (h1:-1073741824≤f) (h2:f≤1073741824) (i:Nat) (hi:i<1000) :
 m_hist_At a (W64 (f+(i:Int)))=some (gA a (f+(i:Int)))∧m_hist_At b (W64 (f+(i:Int)))=some (gA b (f+(i:Int))):=by
 rw [W64_id (by omega) (by omega)];exact ⟨At_gA ha (by omega) (by omega),At_gA hb (by omega) (by omega)⟩
theorem done_map {l:List UInt64} {n:Nat} {g:Nat→UInt64} (hl:l.length=n) (h:∀ j,j<n→l[j]?=some (g j)):l=(List.range n).map g:=by
 apply List.ext_getElem?
 intro j;rw [List.getElem?_map]
 by_cases hj:j<n
 ·rw [h j hj,List.getElem?_range hj];rfl
 ·rw [List.getElem?_eq_none (by omega),List.getElem?_eq_none (by simpa using hj)];rfl
theorem Merge_ok {x y:T_api_Hist} (hx:LH x) (hy:LH y):Tot (λr=>r.2=0→RH r.1) (m_fold_Merge x y):=by
 unfold m_fold_Merge
 refine (LevV_tot hx hy).bind λp hv=>Tot.ite (λh=>.some λh2=>absurd h2 h) λh0=>?_
 have h0':p.2.2=0:=Decidable.not_not.1 h0;have hp:=hv.l;have ra:=hv.a h0';have rb:=hv.b h0';rw [Total_eq _ hp.a.p hp.a.n,bndS,Total_eq _ hp.b.p hp.b.n,bndS];have ta:=ra.t;have tb:=rb.t
 refine Tot.ite (λ_=>.some λh=>by simp at h) λhcy=>?_
 have htt:totN p.1+totN p.2.1<2^64:=by
  unfold totE cry at hcy;rw [if_pos ta,if_pos tb] at hcy;dsimp only at hcy;rw [UInt64.toNat_ofNat',UInt64.toNat_ofNat',Nat.mod_eq_of_lt ta,Nat.mod_eq_of_lt tb] at hcy
  split at hcy
  ·exact absurd (by decide) hcy
  ·omega
 have hz:(p.1.Zero+p.2.1.Zero).toNat=p.1.Zero.toNat+p.2.1.Zero.toNat:=u64_add (by unfold totN at htt;omega);have hS:=ra.lo;have hS2:=ra.hi;have ht:=htt;unfold totN at ht
 refine Tot.jn (R:=RH) (λy hy=>.some λ_=>hy) λj hj=>?_
 refine Tot.jn (R:=λy=>y.Scale=p.1.Scale∧y.Zero=p.1.Zero+p.2.1.Zero∧RS y.Pos∧sumN y.Pos.Counts=sumN p.1.Pos.Counts+sumN p.2.1.Pos.Counts∧y.Neg=⟨0,[]⟩) (λy hy=>?_) λj2 hj2=>?_
 ·obtain ⟨y1,y2,y3,y4,y5⟩:=hy
  refine Tot.jn (R:=RH) (λz hz=>hj z hz) λj3 hj3=>?_
  refine (cover_ok ra.n rb.n).bind λc hc=>?_
  obtain ⟨n,hcn,hc⟩:=hc;rw [hcn]
  refine Tot.ite (λ_=>.some λh=>by simp at h) λh1=>Tot.ite (λhz0=>?_) λhn0=>?_
  ·obtain ⟨za,zb⟩:=hc.z (by omega)
   refine hj3 _ ⟨by omega,by omega,y3,by rw [y5];exact .nil,?_⟩;unfold totN;rw [y2,hz,y4,y5];show _+_+0<_
   omega
  ·have hn:0<n:=by omega
   obtain ⟨b1,b2⟩:=both_ok ra.n rb.n hc hn (by omega) (by omega)
   refine Tot.jn (R:=λz=>z={ y with Neg:=⟨c.1,List.replicate n 0⟩ }) (λz hzz=>?_) λj4 hj4=>?_
   ·refine Tot.jn (R:=RH) (λv hv=>hj3 _ hv) λj5 hj5=>?_
    have hzl:z.Neg.Counts.length=n:=by rw [hzz];simp
    rw [m_fold_Merge_L1_scan _ _ _ _ _ (by omega)]
    refine scan_tot (λi s=>s.Scale=y.Scale∧s.Zero=y.Zero∧s.Pos=y.Pos∧s.Neg.Offset=c.1∧s.Neg.Counts.length=n∧∀ j,j<i→s.Neg.Counts[j]?=some (gA p.1.Neg (c.1+(j:Int))+gA p.2.1.Neg (c.1+(j:Int)))) ⟨by rw [hzz],by rw [hzz],by rw [hzz],by rw [hzz],hzl,λj h=>absurd h (by omega)⟩ (λs hs=>?_) λi x s k hi hs hk=>?_
    ·obtain ⟨s1,s2,s3,s4,s5,s6⟩:=hs
     rw [hzl] at s6;have e:=done_map s5 s6;have e2:s.Neg=⟨c.1,(List.range n).map λ(j:Nat)=>gA p.1.Neg (c.1+(j:Int))+gA p.2.1.Neg (c.1+(j:Int))⟩:=(side_ext _ _).2 ⟨s4,e⟩;refine hj5 _ ⟨by omega,by omega,by rw [s3];exact y3,by rw [e2];exact b1,?_⟩;unfold totN;rw [s2,y2,hz,s3,y4,e2,b2]
     omega
    ·obtain ⟨s1,s2,s3,s4,s5,s6⟩:=hs
     obtain ⟨m1,m2⟩:=merge_L ra.n.b rb.n.b hc.lo hc.hi i (by omega);rw [m1,bndS,m2,bndS]
     refine (idx_some (by omega) (by omega)).bind λ_ _=>hk _ ⟨s1,s2,s3,s4,?_,λj hji=>?_⟩
     ·show (setI s.Neg.Counts (i:Int) _).length=n
      rw [setI_len];exact s5
     ·show (setI s.Neg.Counts (i:Int) _)[j]?=_
      unfold setI;rw [Int.toNat_natCast,List.getElem?_set]
      by_cases hij:i=j
      ·rw [if_pos hij,if_pos (by omega),hij]
      ·rw [if_neg hij];exact s6 j (by omega)
   ·unfold mkL
    rw [if_pos (by omega),bndS];refine hj4 _ ?_;rw [Int.toNat_natCast]
 ·have nil0:RS (⟨0,[]⟩:T_api_Side):=.nil
  refine (cover_ok ra.p rb.p).bind λc hc=>?_
  obtain ⟨n,hcn,hc⟩:=hc;rw [hcn]
  refine Tot.ite (λ_=>.some λh=>by simp at h) λh1=>Tot.ite (λhz0=>?_) λhn0=>?_
  ·obtain ⟨za,zb⟩:=hc.z (by omega)
   refine hj2 _ ⟨rfl,rfl,nil0,by rw [za,zb];rfl,rfl⟩
  ·have hn:0<n:=by omega
   obtain ⟨b1,b2⟩:=both_ok ra.p rb.p hc hn (by omega) (by omega)
   refine Tot.jn (R:=λz=>z=⟨p.1.Scale,p.1.Zero+p.2.1.Zero,⟨c.1,List.replicate n 0⟩,⟨0,[]⟩⟩) (λz hzz=>?_) λj4 hj4=>?_
   ·refine Tot.jn (R:=λy=>y.Scale=p.1.Scale∧y.Zero=p.1.Zero+p.2.1.Zero∧RS y.Pos∧sumN y.Pos.Counts=sumN p.1.Pos.Counts+sumN p.2.1.Pos.Counts∧y.Neg=⟨0,[]⟩) (λv hv=>hj2 _ hv) λj5 hj5=>?_
    have hzl:z.Pos.Counts.length=n:=by rw [hzz];simp
    rw [m_fold_Merge_L2_scan _ _ _ _ _ (by omega)]
    refine scan_tot (λi s=>s.Scale=p.1.Scale∧s.Zero=p.1.Zero+p.2.1.Zero∧s.Neg=⟨0,[]⟩∧s.Pos.Offset=c.1∧s.Pos.Counts.length=n∧∀ j,j<i→s.Pos.Counts[j]?=some (gA p.1.Pos (c.1+(j:Int))+gA p.2.1.Pos (c.1+(j:Int)))) ⟨by rw [hzz],by rw [hzz],by rw [hzz],by rw [hzz],hzl,λj h=>absurd h (by omega)⟩ (λs hs=>?_) λi x s k hi hs hk=>?_
    ·obtain ⟨s1,s2,s3,s4,s5,s6⟩:=hs
     rw [hzl] at s6;have e:=done_map s5 s6;have e2:s.Pos=⟨c.1,(List.range n).map λ(j:Nat)=>gA p.1.Pos (c.1+(j:Int))+gA p.2.1.Pos (c.1+(j:Int))⟩:=(side_ext _ _).2 ⟨s4,e⟩;exact hj5 _ ⟨s1,s2,by rw [e2];exact b1,by rw [e2];exact b2,s3⟩
    ·obtain ⟨s1,s2,s3,s4,s5,s6⟩:=hs
     obtain ⟨m1,m2⟩:=merge_L ra.p.b rb.p.b hc.lo hc.hi i (by omega);rw [m1,bndS,m2,bndS]
     refine (idx_some (by omega) (by omega)).bind λ_ _=>hk _ ⟨s1,s2,s3,s4,?_,λj hji=>?_⟩
     ·show (setI s.Pos.Counts (i:Int) _).length=n
      rw [setI_len];exact s5
     ·show (setI s.Pos.Counts (i:Int) _)[j]?=_
      unfold setI;rw [Int.toNat_natCast,List.getElem?_set]
      by_cases hij:i=j
      ·rw [if_pos hij,if_pos (by omega),hij]
      ·rw [if_neg hij];exact s6 j (by omega)
   ·unfold mkL
    rw [if_pos (by omega),bndS];refine hj4 _ ?_;rw [Int.toNat_natCast]
end Go.Proofs.YtaikmpmokihciaaGreat
set_option maxRecDepth 20000
set_option linter.unusedVariables false
set_option linter.unusedSimpArgs false
namespace Go.Proofs.YtaikmpmokihciaaGreat
open Go Go.RowKit Go.Wk
theorem scan_totE {α S R:Type} {l:List α} {s:S} {B:Nat→α→S→(S→Option R)→Option R} {J:S→Option R} {Q:R→Prop} (I:Nat→S→Prop) (h0:I 0 s) (hJ:∀ s,I l.length s→Tot Q (J s))
 (hB:∀ i x s k,l[i]?=some x→I i s→(∀ s',I (i+1) s'→Tot Q (k s'))→Tot Q (B i x s k)):Tot Q (scanL l s B J):=by
 have key:∀ (m:List α) (i:Nat) (s:S),m=l.drop i→i≤l.length→I i s→Tot Q (scan B J i m s):=by
  intro m
  induction m with
  | nil=>
   intro i s hm hi hI
   have:i=l.length:=by
    have:=congrArg List.length hm;simp at this
    omega
   exact hJ s (by rw [← this];exact hI)
  | cons x m ih=>
   intro i s hm hi hI
   have hx:l[i]?=some x:=by
    have:=congrArg (·[0]?) hm;simpa using this.symm
   have hlt:=(List.getElem?_eq_some_iff.1 hx).1
   refine hB i x s _ hx hI λs' hs=>ih (i+1) s' ?_ (by omega) hs
   have:=congrArg (List.drop 1) hm;simpa [List.drop_drop,Nat.add_comm] using this
 exact key l 0 s rfl (Nat.zero_le _) h0
theorem sumN_drop (l:List UInt64) (i:Nat):sumN (l.drop i)≤sumN l:=by
 have:=sumN_app (l.take i) (l.drop i);rw [List.take_append_drop] at this
 omega
structure TrimV (s q:T_api_Side):Prop where
 ok:RS q
 le:q.Counts.length≤s.Counts.length
 sm:sumN q.Counts≤sumN s.Counts
theorem Trim_ok {s:T_api_Side} (hs:BS s) (he:s.Counts≠[]→s.Offset+s.Counts.length-1≤1073741824):Tot (TrimV s) (m_hist_Trim s):=by
 have hl:=hs.l;have ha:=hs.a;have hb:=hs.b;unfold m_hist_Trim;have u1:∀ (a:Nat) (j:Int→Option T_api_Side),(∀ b:Nat,a≤b→b≤s.Counts.length→(a<b→∀ x,s.Counts[b-1]?=some x→x≠0)→Tot (TrimV s) (j (b:Int)))→∀ m b n,a+m=b→b≤s.Counts.length →
  Tot (TrimV s) (m_hist_Trim_L1 s (a:Int) j (n+m+1) (b:Int)):=by
  intro a j hj m
  induction m with
  | zero=>
   intro b n hb hl;rw [Nat.add_zero,m_hist_Trim_L1,jn_eq,if_neg (by omega)];dsimp only;rw [if_neg (by decide)];exact hj b (by omega) hl (λh=>absurd h (by omega))
  | succ m ih=>
   intro b n hb hl;rw [m_hist_Trim_L1,jn_eq,if_pos (by omega),show W64 ((b:Int)-1)=((b-1:Nat):Int) by rw [W64_id (by omega) (by omega)];omega]
   refine (idx_get (by omega) (by omega)).bind λz hz=>?_
   rw [Int.toNat_natCast] at hz;dsimp only
   refine Tot.ite (λ_=>ih (b-1) n (by omega) (by omega)) λh=>hj b (by omega) hl λ_ x hx=>?_
   rw [hz] at hx;obtain rfl:=Option.some.inj hx;rintro rfl;exact h (by decide)
 have u2:∀ (j:Int→Option T_api_Side),(∀ b:Nat,b≤s.Counts.length→(b<s.Counts.length→∀ x,s.Counts[b]?=some x→x≠0)→Tot (TrimV s) (j (b:Int)))→∀ m b n,b+m=s.Counts.length →
  Tot (TrimV s) (m_hist_Trim_L2 s j (n+m+1) (b:Int)):=by
  intro j hj m
  induction m with
  | zero=>
   intro b n hb;rw [Nat.add_zero,m_hist_Trim_L2,jn_eq,if_neg (by omega)];dsimp only;rw [if_neg (by decide)];exact hj b (by omega) (λh=>absurd h (by omega))
  | succ m ih=>
   intro b n hb;rw [m_hist_Trim_L2,jn_eq,if_pos (by omega)]
   refine (idx_get (by omega) (by omega)).bind λz hz=>?_
   rw [Int.toNat_natCast] at hz;dsimp only;rw [show W64 ((b:Int)+1)=((b+1:Nat):Int) by rw [W64_id (by omega) (by omega)];rfl]
   refine Tot.ite (λ_=>ih (b+1) n (by omega)) λh=>hj b (by omega) λ_ x hx=>?_
   rw [hz] at hx;obtain rfl:=Option.some.inj hx;rintro rfl;exact h (by decide)
 rw [jn_eq];obtain ⟨f,hf⟩:=fuelS (s.Counts.length+1) (by omega);rw [hf];refine u2 _ (λa ha1 ha2=>?_) s.Counts.length 0 f (by omega);rw [jn_eq];rw [show f+(s.Counts.length+1)=(f+a)+(s.Counts.length-a)+1 by omega];refine u1 a _ (λb hb1 hb2 hb3=>?_) (s.Counts.length-a) s.Counts.length _ (by omega) (by omega)
 refine Tot.ite (λ_=>.some ⟨.nil,Nat.zero_le _,Nat.zero_le _⟩) λhab=>?_
 unfold cutL m_slices_Clone_uint64_uint64;rw [if_pos (by omega),bndS]
 have hlt:a<b:=by omega
 have hlen:((s.Counts.take (b:Int).toNat).drop (a:Int).toNat).length=b-a:=by
  rw [List.length_drop,List.length_take];omega
 rw [app_some (by simpa using (by omega)),bndS,List.nil_append,W64_id (by omega) (by omega)]
 have hget:∀ k,k<b-a→((s.Counts.take (b:Int).toNat).drop (a:Int).toNat)[k]?=s.Counts[a+k]?:=by
  intro k hk;rw [List.getElem?_drop,Int.toNat_natCast,Int.toNat_natCast,List.getElem?_take_of_lt (by omega)]
 have hne:=he (λh=>by rw [h] at hb2;simp at hb2;omega);refine .some ⟨⟨⟨by show _≤_;rw [hlen];omega,by show _≤s.Offset+(a:Int);omega,by show s.Offset+(a:Int)≤_;omega⟩,λh=>?_,λ_=>?_,λx hx=>?_,λx hx=>?_⟩,by show _≤_;rw [hlen];omega,?_⟩
 ·have:=congrArg List.length h
  dsimp only at this;rw [hlen] at this;simp at this
  omega
 ·show s.Offset+(a:Int)+(((s.Counts.take (b:Int).toNat).drop (a:Int).toNat).length:Int)-1≤_
  rw [hlen];omega
 ·dsimp only at hx
  rw [hget 0 (by omega)] at hx;exact ha2 (by omega) x hx
 ·dsimp only at hx
  rw [hlen,hget _ (by omega)] at hx;exact hb3 hlt x (by rw [← hx];congr 1;omega)
 ·exact Nat.le_trans (sumN_drop _ _) (take_le _ _)
theorem gA_cases (s:T_api_Side) (x:Int):gA s x=0∨∃ k:Nat,x=s.Offset+k∧s.Counts[k]?=some (gA s x):=by
 unfold gA
 split
 ·rename_i h
  cases hk:s.Counts[(x-s.Offset).toNat]? with
  | none=>exact .inl rfl
  | some y=>exact .inr ⟨(x-s.Offset).toNat,by omega,hk⟩
 ·exact .inl rfl
theorem left_ok {a b:T_api_Side} (ha:RS a) (hb:RS b):Tot (λr=>r.2=true→TrimV a r.1) (m_fold_left a b):=by
 have:=ha.b.l;have:=ha.b.a;have:=ha.b.b;have:=hb.b.l;have:=hb.b.a;have:=hb.b.b;unfold m_fold_left
 refine Tot.jn (R:=λ_=>∀ (k:Nat) (y:UInt64),b.Counts[k]?=some y→y.toNat≤(gA a (b.Offset+(k:Int))).toNat) (λ_ hc=>?_) λj hj=>?_
 ·refine Tot.jn (R:=λy=>y.Offset=a.Offset∧y.Counts.length=a.Counts.length∧sumN y.Counts≤sumN a.Counts) (λy hy=>?_) λj hj=>?_
  ·obtain ⟨y1,y2,y3⟩:=hy
   refine (Trim_ok ⟨by omega,by omega,by omega⟩ (λh=>?_)).bind λr hr=>.some λ_=>⟨hr.ok,by have:=hr.le;dsimp only;omega,by have:=hr.sm;dsimp only;omega⟩
   have:=ha.e (λh2=>h (List.eq_nil_of_length_eq_zero (by rw [y2,h2];rfl)))
   omega
  ·rw [m_fold_left_L1_scan _ _ _ _ (by omega)]
   refine scan_totE (λi s=>s.Offset=a.Offset∧s.Counts.length=i∧sumN s.Counts≤sumN (a.Counts.take i)) ⟨rfl,rfl,Nat.zero_le _⟩ (λs hs=>hj _ ⟨hs.1,hs.2.1,by have:=hs.2.2;rw [List.take_length] at this;exact this⟩) λi x s k hx hs hk=>?_
   have hlt:=(List.getElem?_eq_some_iff.1 hx).1;obtain ⟨s1,s2,s3⟩:=hs;rw [bndS,W64_id (by omega) (by omega),At_gA hb.b (by omega) (by omega),bndS,app_some (by simp;omega),bndS];refine hk _ ⟨s1,by simp;omega,?_⟩;have t1:=take_sum hx
   have hle:(gA b (a.Offset+(i:Int))).toNat≤x.toNat:=by
    rcases gA_cases b (a.Offset+(i:Int)) with h|⟨k,h1,h2⟩
    ·rw [h];exact Nat.zero_le _
    ·have:=hc k _ h2
     rw [← h1,gA_get hx] at this;exact this
   have hsub:(x-gA b (a.Offset+(i:Int))).toNat=x.toNat-(gA b (a.Offset+(i:Int))).toNat:=UInt64.toNat_sub_of_le _ _ (UInt64.le_iff_toNat_le.2 hle);show sumN (s.Counts++[x-gA b (a.Offset+(i:Int))])≤_;rw [sumN_app,t1];simp only [sumN,List.map_cons,List.map_nil,List.sum_cons,List.sum_nil];rw [hsub];have s3':sumN s.Counts≤sumN (a.Counts.take i):=s3;unfold sumN at s3'
   omega
 ·rw [m_fold_left_L2_scan _ _ _ (by omega)]
  refine scan_totE (λi _=>∀ (k:Nat) (y:UInt64),k<i→b.Counts[k]?=some y→y.toNat≤(gA a (b.Offset+(k:Int))).toNat) (λk y h=>absurd h (by omega)) (λs hs=>hj _ λk y hy=>hs k y (List.getElem?_eq_some_iff.1 hy).1 hy) λi x s k hx hs hk=>?_
  have hlt:=(List.getElem?_eq_some_iff.1 hx).1;rw [bndS,W64_id (by omega) (by omega),At_gA ha.b (by omega) (by omega),bndS]
  refine Tot.ite (λ_=>.some λh=>by simp at h) λh=>hk _ λq y hq hy=>?_
  by_cases hqi:q=i
  ·subst hqi
   rw [hx] at hy;obtain rfl:=Option.some.inj hy
   omega
  ·exact hs q y (by omega) hy
structure SubV (x q:T_api_Hist):Prop where
 ok:RH q
 p:q.Pos.Counts.length≤x.Pos.Counts.length
 n:q.Neg.Counts.length≤x.Neg.Counts.length
theorem Sub_ok {x y:T_api_Hist} (hx:LH x) (hy:LH y):Tot (λr=>LH r.1∧(r.2=0→SubV x r.1)) (m_fold_Sub x y):=by
 unfold m_fold_Sub
 refine (LevV_tot hx hy).bind λp hv=>Tot.ite (λh=>.some ⟨.z,λh2=>absurd h2 h⟩) λh0=>?_
 have h0':p.2.2=0:=Decidable.not_not.1 h0;have ra:=hv.a h0';have rb:=hv.b h0';have hp:=hv.p h0';have hn:=hv.n h0';have ta:=ra.t;have s1:=ra.lo;have s2:=ra.hi;unfold totN at ta
 refine (left_ok ra.p rb.p).bind λu hu=>(left_ok ra.n rb.n).bind λv hv=>Tot.ite (λ_=>.some ⟨.z,λh=>by simp at h⟩) λh=>?_
 simp only [not_or] at h;obtain ⟨⟨g1,g2⟩,g3⟩:=h;have u1:=hu (by simpa using g2);have v1:=hv (by simpa using g3);have hz:(p.1.Zero-p.2.1.Zero).toNat=p.1.Zero.toNat-p.2.1.Zero.toNat:=UInt64.toNat_sub_of_le _ _ (UInt64.le_iff_toNat_le.2 (by omega));have a1:=u1.le;have a2:=v1.le;have a3:=u1.sm;have a4:=v1.sm;have a5:=u1.ok.b.l;have a6:=v1.ok.b.l;have ok:RH ⟨p.1.Scale,p.1.Zero-p.2.1.Zero,u.1,v.1⟩:=⟨s1,s2,u1.ok,v1.ok,by unfold totN;dsimp only;rw [hz];omega⟩;exact .some ⟨ok.l,λ_=>⟨ok,by dsimp only;omega,by dsimp only;omega⟩⟩
theorem span_len {s:T_api_Side} (hs:RS s) {k:Nat} (hk:k≤30):Tot (λv:Int=>∀ r,m_hist_down s (toU64 (k:Int))=some r→DnR s r→(r.Counts.length:Int)=v) (m_hist_span s (toU64 (k:Int))):=by
 obtain ⟨h1,h2,h3⟩:=hs.b
 by_cases hn:s.Counts=[]
 ·unfold m_hist_span
  rw [if_pos (by rw [hn];rfl)]
  refine .some λr _ hr=>?_
  have:=hr.le;rw [hn] at this;simp at this;rw [this];rfl
 ·rw [span_eq hs.to hn hk]
  refine .some λr hr _=>?_
  have hP:0<2^k:=Nat.pow_pos (by omega);have h0:0<s.Counts.length:=List.length_pos_iff.2 hn;have h4':=hs.e hn;obtain ⟨d1,d2⟩:=div_add (o:=s.Offset) hP (s.Counts.length-1)
  have key:Tot (λr:T_api_Side=>(r.Counts.length:Int)=(s.Offset+(s.Counts.length-1:Nat))/(2^k:Nat)-s.Offset/(2^k:Nat)+1) (m_hist_down s (toU64 (k:Int))):=by
   unfold m_hist_down;rw [if_neg (by omega),jn_eq,span_eq hs.to hn hk,bndS];unfold mkL;rw [if_pos (by omega),bndS,shr_div _ hk];dsimp only;rw [jn_eq];obtain ⟨f,hf⟩:=fuelS (s.Counts.length+1) (by omega);rw [hf];refine down_L1 (β:=Unit) hs.to hn hk _ (λy _ hy=>.some hy) s.Counts.length 0 f _ (by omega) rfl ?_;dsimp only;rw [List.length_replicate];omega
  obtain ⟨r',e,hr'⟩:=key;rw [e] at hr;obtain rfl:=Option.some.inj hr;exact hr'
structure FitV (b:Int) (r:T_api_Hist×Int):Prop where
 l:LH r.1
 v:r.2=0→RH r.1
 p:r.2=0→(r.1.Pos.Counts.length:Int)≤b
 n:r.2=0→(r.1.Neg.Counts.length:Int)≤b
theorem Fit_ok {h:T_api_Hist} (hl:LH h) (b:Int):Tot (FitV b) (m_hist_Fit h b):=by
 unfold m_hist_Fit;rw [HCheck_eq h hl.p hl.n,bndS]
 refine Tot.ite (λh1=>.some ⟨.z,λh2=>absurd h2 h1,λh2=>absurd h2 h1,λh2=>absurd h2 h1⟩) λh1=>?_
 have hh:hcE h=0:=Decidable.not_not.1 h1;have rh:=RH.of hh;have s1:=rh.lo;have s2:=rh.hi;have ht:=rh.t;unfold totN at ht
 have e1:W64 (h.Scale - -10)=h.Scale+10:=by rw [W64_id (by omega) (by omega)];omega
 rw [jn_eq]
 have key:∀ (j:Unit→Option (T_api_Hist×Int)),Tot (FitV b) (j ())→∀ m i n:Nat,(i:Int)+m=h.Scale+11→Tot (FitV b) (m_hist_Fit_L1 h b j (n+m+1) (i:Int)):=by
  intro j hj m
  induction m with
  | zero=>
   intro i n hi;rw [Nat.add_zero,m_hist_Fit_L1,e1,if_neg (by omega)];exact hj
  | succ m ih=>
   intro i n hi;rw [m_hist_Fit_L1,e1,if_pos (by omega)]
   refine (span_len rh.p (k:=i) (by omega)).bind λv hv=>(span_len rh.n (k:=i) (by omega)).bind λw hw=>?_
   refine Tot.ite (λhvw=>?_) λ_=>?_
   ·obtain ⟨p,hp,hpv⟩:=dn_tot rh.p (by omega) (k:=i) (by omega)
    obtain ⟨q,hq,hqv⟩:=dn_tot rh.n (by omega) (k:=i) (by omega);have l1:=hv p hp hpv;have l2:=hw q hq hqv;obtain ⟨r,hr,hrv⟩:=DownV_tot rh (b:=(i:Int)) (by omega) (by omega)
    have e2:r.1.Pos=p∧r.1.Neg=q:=by
     unfold m_hist_Down at hr;rw [HCheck_eq h hl.p hl.n,bndS,hh,if_neg (by simp),jn_eq,if_neg (by omega)] at hr;dsimp only at hr;rw [e1,if_neg (by simp;omega),hp,bndS,hq,bndS] at hr;obtain rfl:=Option.some.inj hr;exact ⟨rfl,rfl⟩
    rw [hr,bndS];refine .some ⟨hrv.v.l,λ_=>hrv.v,λ_=>?_,λ_=>?_⟩
    ·show (r.1.Pos.Counts.length:Int)≤b
     rw [e2.1];omega
    ·show (r.1.Neg.Counts.length:Int)≤b
     rw [e2.2];omega
   ·rw [show W64 ((i:Int)+1)=((i+1:Nat):Int) by rw [W64_id (by omega) (by omega)];rfl]
    exact ih (i+1) n (by omega)
 obtain ⟨f,hf⟩:=fuelS 50 (by omega);obtain ⟨m,hm⟩:∃ m:Nat,h.Scale+11=m:=⟨(h.Scale+11).toNat,by omega⟩;rw [hf,show f+50=(f+49-m)+m+1 by omega];exact key (λ_=>some (hZ,4)) (Tot.some (r:=(hZ,4)) ⟨.z,λh=>by simp at h,λh=>by simp at h,λh=>by simp at h⟩) m 0 _ (by omega)
structure TogV (b:Int) (r:T_api_Hist×Bool):Prop where
 l:LH r.1
 v:r.2=true→RH r.1
 p:r.2=true→(r.1.Pos.Counts.length:Int)≤b
 n:r.2=true→(r.1.Neg.Counts.length:Int)≤b
theorem TogV.no (b:Int):TogV b (hZ,false):=⟨.z,λh=>by simp at h,λh=>by simp at h,λh=>by simp at h⟩
theorem MergeV {x y:T_api_Hist} (hx:LH x) (hy:LH y):Tot (λr=>LH r.1∧(r.2=0→RH r.1)) (m_fold_Merge x y):=by
 obtain ⟨r,h1,h2⟩:=Merge_tot hx hy;obtain ⟨r',h3,h4⟩:=Merge_ok hx hy;rw [h1] at h3;obtain rfl:=Option.some.inj h3;exact ⟨r,h1,h2,h4⟩
theorem Together_ok (b:Int):∀ m n x y,LH x→LH y→stepsH x m→Tot (TogV b) (m_tocum_Together_L1 b (n+m+1) x y):=by
 intro m
 induction m with
 | zero=>
  intro n x y hx hy hs;rw [Nat.add_zero,m_tocum_Together_L1]
  have e:x.Scale=-10:=by
   rcases hs with ⟨k,h1,rfl,h2⟩|⟨_,h⟩|⟨h,h2⟩
   ·show -(k:Int)=-10;omega
   ·omega
   ·have:=(hc_ok h).1;omega
  refine (MergeV hx hy).bind λp hp=>Tot.ite (λ_=>.some (.no b)) λ_=>?_
  refine Tot.jn (R:=λv=>v=true→p.2=0∧max (p.1.Pos.Counts.length:Int) (p.1.Neg.Counts.length:Int)≤b) (λv hv=>Tot.ite (λh=>?_) λ_=>?_) λj hj=>Tot.ite (λh=>hj _ λh2=>⟨h,by simpa using h2⟩) λ_=>hj _ λh=>by simp at h
  ·obtain ⟨h1,h2⟩:=hv h
   exact .some ⟨hp.1,λ_=>hp.2 h1,λ_=>by dsimp only;omega,λ_=>by dsimp only;omega⟩
  ·rw [if_pos e]
   exact .some (.no b)
 | succ m ih=>
  intro n x y hx hy hs;rw [m_tocum_Together_L1]
  refine (MergeV hx hy).bind λp hp=>Tot.ite (λ_=>.some (.no b)) λ_=>?_
  refine Tot.jn (R:=λv=>v=true→p.2=0∧max (p.1.Pos.Counts.length:Int) (p.1.Neg.Counts.length:Int)≤b) (λv hv=>Tot.ite (λh=>?_) λ_=>?_) λj hj=>Tot.ite (λh=>hj _ λh2=>⟨h,by simpa using h2⟩) λ_=>hj _ λh=>by simp at h
  ·obtain ⟨h1,h2⟩:=hv h
   exact .some ⟨hp.1,λ_=>hp.2 h1,λ_=>by dsimp only;omega,λ_=>by dsimp only;omega⟩
  ·refine Tot.ite (λ_=>.some (.no b)) λe=>?_
   rcases hs with ⟨k,h1,rfl,h2⟩|⟨h,h2⟩|⟨h,h2⟩
   ·have hk:k<10:=by
     have:¬(-(k:Int)=-10):=e
     omega
    obtain ⟨r,hr⟩:=hE_down hk;rw [hr,bndS]
    refine (Down_tot hy _).bind λq hq=>ih n _ _ ⟨Nat.zero_le _,Nat.zero_le _⟩ hq.l (.inl ⟨k+1,by omega,rfl,by omega⟩)
   ·refine (Down_tot hx _).bind λp hp=>(Down_tot hy _).bind λq hq=>ih n _ _ hp.l hq.l (.inl ⟨0,by omega,?_,by omega⟩)
    rw [hp.bad h];rfl
   ·have hb:=(hc_ok h).1
    refine (Down_tot hx _).bind λp hp=>(Down_tot hy _).bind λq hq=>ih n _ _ hp.l hq.l ?_
    have hsc:=hp.good h (by omega) (by omega)
    by_cases h3:hcE p.1=0
    ·exact .inr (.inr ⟨h3,by omega⟩)
    ·exact .inr (.inl ⟨h3,by omega⟩)
theorem Tog_ok {x y:T_api_Hist} (hx:LH x) (hy:LH y) (b:Int):Tot (TogV b) (m_tocum_Together x y b):=by
 unfold m_tocum_Together
 refine (Level_tot hx hy).bind λp hp=>Tot.ite (λ_=>.some (.no b)) λ_=>?_
 obtain ⟨f,hf⟩:=fuelS 50 (by omega);rw [hf];refine Together_ok b 49 f _ _ hp.a hp.b ?_
 by_cases h:hcE p.1=0
 ·exact .inr (.inr ⟨h,by have:=(hc_ok h).2.1;omega⟩)
 ·exact .inr (.inl ⟨h,by omega⟩)
end Go.Proofs.YtaikmpmokihciaaGreat
set_option maxRecDepth 20000
set_option linter.unusedVariables false
set_option linter.unusedSimpArgs false
namespace Go.Proofs.YtaikmpmokihciaaGreat
open Go Go.RowKit Go.Wk
theorem fin_read {x:UInt64} (h:finB x=true):∃ (m k:Nat),Ieee.Format.read Ieee.double x.toNat=.number (x.toNat/9223372036854775808%2==1) m (-1074+(k:Int))∧(x.toNat%9223372036854775808=0→m=0):=by
 unfold finB at h;rw [decide_eq_true_iff] at h;unfold Ieee.Format.read
 have sw:Ieee.double.signWeight=9223372036854775808:=by decide
 have bn:Ieee.double.binade=4503599627370496:=by decide
 have ir:Ieee.double.infRung=9218868437227405312:=by decide
 have lp:Ieee.double.leastPlace=-1074:=by decide
 dsimp only;rw [sw,bn,ir,lp]
 by_cases h1:x.toNat%9223372036854775808<4503599627370496
 ·rw [if_pos h1]
  exact ⟨_,0,rfl,λh=>h⟩
 ·rw [if_neg h1,if_pos (by omega)]
  exact ⟨_,_,rfl,λh=>by omega⟩
theorem nn_read {x:UInt64} (h:finB x=true) (h2:ltZ x=false):∃ (s:Bool) (m k:Nat),Ieee.Format.read Ieee.double x.toNat=.number s m (-1074+(k:Int))∧(s=true→m=0):=by
 obtain ⟨m,k,h3,h4⟩:=fin_read h;refine ⟨_,m,k,h3,λhs=>h4 ?_⟩;unfold ltZ at h2;unfold finB at h;rw [decide_eq_true_iff] at h;rw [decide_eq_false_iff_not] at h2;have hx:=x.toNat_lt
 have:x.toNat/9223372036854775808%2=1:=by simpa using hs
 omega
theorem sg_nn {s:Bool} {m:Nat} (h:s=true→m=0) (u:Nat):0≤Ieee.signed s m u:=by
 unfold Ieee.signed
 cases s with
 | false=>rw [if_neg (by decide)];exact Int.natCast_nonneg _
 | true=>rw [h rfl];simp
theorem sg_op (s:Bool) (m u:Nat):Ieee.signed (!s) m u=- Ieee.signed s m u:=by
 unfold Ieee.signed
 cases s<;>simp
theorem ltZ_small {n:Nat} (h:n<9223372036854775808):ltZ (UInt64.ofNat n)=false:=by
 unfold ltZ;rw [decide_eq_false_iff_not,UInt64.toNat_ofNat']
 omega
theorem write_nn {t:Int} (h:0≤t) (z:Bool) (pl:Int):ltZ (UInt64.ofNat (Ieee.Format.write Ieee.double (.number (if t=0 then z else decide (t<0)) t.natAbs pl)))=false:=by
 have sw:Ieee.double.signWeight=9223372036854775808:=by decide
 have ir:Ieee.double.infRung=9218868437227405312:=by decide
 show ltZ (UInt64.ofNat (Ieee.Format.nearest Ieee.double _ _ _))=false;unfold Ieee.Format.nearest
 by_cases h0:t=0
 ·rw [if_pos h0,if_pos (by rw [h0];rfl)]
  unfold Ieee.Format.word;rw [sw]
  cases z with
  | false=>rfl
  | true=>decide
 ·rw [if_neg h0,if_neg (by omega),decide_eq_false (by omega)]
  unfold Ieee.Format.word;dsimp only;rw [if_neg (by decide),ir];exact ltZ_small (Nat.lt_of_le_of_lt (Nat.min_le_right _ _) (by decide))
theorem sum_eq (s t:Bool) (m n i j:Nat):∃ b:Int,Ieee.Datum.sum (.number s m (-1074+(i:Int))) (.number t n (-1074+(j:Int))) =
 some (.number (if Ieee.signed s m (i-min i j)+Ieee.signed t n (j-min i j)=0 then s&&t else decide (Ieee.signed s m (i-min i j)+Ieee.signed t n (j-min i j)<0)) (Ieee.signed s m (i-min i j)+Ieee.signed t n (j-min i j)).natAbs b):=by
 refine ⟨min (-1074+(i:Int)) (-1074+(j:Int)),?_⟩
 have e1:((-1074+(i:Int))-min (-1074+(i:Int)) (-1074+(j:Int))).toNat=i-min i j:=by omega
 have e2:((-1074+(j:Int))-min (-1074+(i:Int)) (-1074+(j:Int))).toNat=j-min i j:=by omega
 unfold Ieee.Datum.sum;dsimp only;rw [e1,e2]
theorem fadd_nn {a b:UInt64} (fa:finB a=true) (fb:finB b=true) (za:ltZ a=false) (zb:ltZ b=false):ltZ (fadd a b)=false:=by
 obtain ⟨s,m,i,h1,h2⟩:=nn_read fa za;obtain ⟨t,n,j,h3,h4⟩:=nn_read fb zb;unfold fadd Ieee.Format.add;rw [h1,h3];obtain ⟨pl,e⟩:=sum_eq s t m n i j;rw [e];have p1:=sg_nn h2 (i-min i j);have p2:=sg_nn h4 (j-min i j);exact write_nn (by omega) _ _
theorem fsub_nn {a b:UInt64} (fa:finB a=true) (fb:finB b=true) (h:fltLt a b=false):ltZ (fsub a b)=false:=by
 obtain ⟨m,i,h1,_⟩:=fin_read fa;obtain ⟨n,j,h3,_⟩:=fin_read fb;unfold fltLt at h;unfold fsub Ieee.Format.sub;have h':(Ieee.Datum.order (Ieee.Format.read Ieee.double a.toNat) (Ieee.Format.read Ieee.double b.toNat)==some .lt)=false:=h;rw [h1,h3] at h' ⊢;generalize (a.toNat/9223372036854775808%2==1)=s at *;generalize (b.toNat/9223372036854775808%2==1)=t at *
 have e1:((-1074+(i:Int))-min (-1074+(i:Int)) (-1074+(j:Int))).toNat=i-min i j:=by omega
 have e2:((-1074+(j:Int))-min (-1074+(i:Int)) (-1074+(j:Int))).toNat=j-min i j:=by omega
 have h5:(some (compare (Ieee.signed s m (i-min i j)) (Ieee.signed t n (j-min i j)))==some Ordering.lt)=false:=by
  unfold Ieee.Datum.order at h';dsimp only at h';rw [e1,e2] at h';exact h'
 have h6:¬(Ieee.signed s m (i-min i j)<Ieee.signed t n (j-min i j)):=by
  intro hlt
  have:compare (Ieee.signed s m (i-min i j)) (Ieee.signed t n (j-min i j))=.lt:=by
   simp only [compare,compareOfLessAndEq];rw [if_pos hlt]
  rw [this] at h5;exact absurd h5 (by decide)
 show ltZ (fltO (((Ieee.Datum.sum (.number s m (-1074+(i:Int))) (.number (!t) n (-1074+(j:Int)))).map Ieee.double.write)))=false;obtain ⟨pl,e⟩:=sum_eq s (!t) m n i j;rw [e];refine write_nn ?_ _ _;rw [sg_op]
 omega
theorem bits_nn (x:UInt64):Tot (λy=>ltZ x=false→ltZ y=false) (m_num_bits x):=by
 unfold m_num_bits m_num_Canon m_num_Odd;rw [bndS]
 split
 ·exact .some λ_=>by decide
 ·exact .some λh=>h
theorem nless_eq (x y:UInt64):m_num_Less x y=some (fltLt x y):=by
 unfold m_num_Less m_num_of;rw [bndS,bndS]
theorem nsub_ok (x y:UInt64):Tot (λz=>finB x=true→finB y=true→fltLt x y=false→ltZ z=false) (m_num_Sub x y):=by
 unfold m_num_Sub m_num_of;rw [bndS,bndS]
 exact (bits_nn _).bind λz hz=>.some λa b c=>hz (fsub_nn a b c)
theorem naddp_ok (a b c d:UInt64):Tot (λz=>finB a=true→finB c=true→ltZ a=false→ltZ c=false→ltZ z.1=false) (m_num_AddPhasor a b c d):=by
 unfold m_num_AddPhasor m_num_phasor m_num_of;simp only [bndS];unfold m_num_parts
 refine Tot.bind (P:=λp:UInt64×UInt64=>finB a=true→finB c=true→ltZ a=false→ltZ c=false→ltZ p.1=false) ((bits_nn _).bind λy hy=>(bits_nn _).bind λw _=>.some λh1 h2 h3 h4=>hy (fadd_nn h1 h2 h3 h4)) λp hp=>.some hp
theorem dfin_eq {l:List UInt64} (hl:l.length≤10):m_todelta_finite l=some (l.all finB):=by
 unfold m_todelta_finite;rw [jn_eq,m_todelta_finite_L1_scan _ _ (by omega)]
 have e:(λ(_:Nat) (xx:UInt64) (_:Unit) (kk:Unit→Option Bool)=>(some xx).bind λz7=>(m_num_Finite z7).bind λp9=>if (!p9)=true then some false else kk ())=λ_ xx _ kk=>if finB xx=true then kk () else some false:=by
  funext _ xx _ kk
  rw [bndS,fin_eq,bndS]
  cases finB xx<;>rfl
 rw [e,scanL_all finB (some false) (λ_ _ _ _=>rfl)]
 cases l.all finB<;>rfl
theorem cfin_eq {l:List UInt64} (hl:l.length≤10):m_tocum_finite l=some (l.all finB):=by
 unfold m_tocum_finite;rw [jn_eq,m_tocum_finite_L1_scan _ _ (by omega)]
 have e:(λ(_:Nat) (xx:UInt64) (_:Unit) (kk:Unit→Option Bool)=>(some xx).bind λz7=>(m_num_Finite z7).bind λp9=>if (!p9)=true then some false else kk ())=λ_ xx _ kk=>if finB xx=true then kk () else some false:=by
  funext _ xx _ kk
  rw [bndS,fin_eq,bndS]
  cases finB xx<;>rfl
 rw [e,scanL_all finB (some false) (λ_ _ _ _=>rfl)]
 cases l.all finB<;>rfl
structure PV (p:Pt):Prop where
 c:check p.Name p.Attrs=0
 k:(p.Kind=3∧p.Temp=0)∨((p.Kind=1∨p.Kind=2∨p.Kind=4∨p.Kind=5)∧(p.Temp=1∨p.Temp=2))
 ms:p.Mono=true→p.Kind=1∨p.Kind=2
 t0:0≤p.Start
 t1:p.Time≤4503599627370496
 t2:p.Kind=3→p.Start=p.Time
 t3:p.Kind≠3→p.Start<p.Time
 oi:p.Kind≠1→p.Int_=0
 re:¬(p.Kind=2∨p.Kind=3∨p.Kind=5)→p.Re=0
 im:p.Kind≠5→p.Im=0
 oh:p.Kind≠4→p.Hist=hZ
 f0:0≤p.Flags
 f1:p.Flags≤31
 ff:p.Mono=true→p.Kind=2→finB p.Re=true
 mi:p.Mono=true→0≤p.Int_
 mr:p.Mono=true→ltZ p.Re=false
 h:p.Kind=4→RH p.Hist
theorem bare_iff (h:T_api_Hist):bareB h=true↔h=hZ:=by
 unfold bareB;rw [decide_eq_true_iff];obtain ⟨a,b,⟨c,d⟩,⟨e,f⟩⟩:=h;simp only [T_api_Hist.mk.injEq,T_api_Side.mk.injEq]
 constructor
 ·rintro ⟨h1,h2,h3,h4,h5,h6⟩;exact ⟨h1,h2,⟨h3,h5⟩,h4,h6⟩
 ·rintro ⟨h1,h2,⟨h3,h5⟩,h4,h6⟩;exact ⟨h1,h2,h3,h4,h5,h6⟩
theorem PV.of {p:Pt} (hp:pcE p=0):PV p:=by
 have hr:=pcE_ok hp;obtain ⟨c,hk,ht,ho,hh⟩:=hr;unfold kindsB at hk;unfold timesB at ht;unfold ownB at ho;rw [decide_eq_true_iff] at ht ho;obtain ⟨t1,t2,t3⟩:=ht;obtain ⟨o1,o2,o3,o4,o5,o6⟩:=ho
 have hk':(p.Kind=3∧p.Temp=0)∨((p.Kind=1∨p.Kind=2∨p.Kind=4∨p.Kind=5)∧(p.Temp=1∨p.Temp=2)):=by
  by_cases h3:p.Kind=3
  ·rw [if_pos h3,decide_eq_true_iff] at hk;exact .inl ⟨h3,hk⟩
  ·rw [if_neg h3] at hk
   simp only [Bool.and_eq_true,decide_eq_true_iff] at hk;exact .inr ⟨by omega,hk.2⟩
 unfold pcE at hp;rw [if_neg (λh=>h c),if_neg (by unfold kindsB;rw [hk];decide)] at hp
 by_cases m1:p.Mono=true∧p.Kind≠1∧p.Kind≠2
 ·rw [if_pos m1] at hp;simp at hp
 rw [if_neg m1,if_neg (by unfold timesB;rw [decide_eq_true ⟨t1,t2,t3⟩];decide),if_neg (by unfold ownB;rw [decide_eq_true ⟨o1,o2,o3,o4,o5,o6⟩];decide)] at hp
 by_cases m2:(p.Mono=true∧p.Kind=2)∧finB p.Re=false
 ·rw [if_pos m2] at hp;simp at hp
 rw [if_neg m2] at hp
 by_cases m3:p.Mono=true∧(p.Int_<0∨ltZ p.Re=true)
 ·rw [if_pos m3] at hp;simp at hp
 refine ⟨c,hk',λh=>?_,t1,t2,λh=>by rw [if_pos h] at t3;exact t3,λh=>by rw [if_neg h] at t3;exact t3,o1,o2,o3,λh=>(bare_iff _).1 (o4 h),o5,o6,λh1 h2=>?_,λh=>?_,λh=>?_,λh=>.of (hh h)⟩
 ·by_cases e:p.Kind=1∨p.Kind=2
  ·exact e
  ·exact absurd ⟨h,by omega⟩ m1
 ·cases hf:finB p.Re with
  | true=>rfl
  | false=>exact absurd ⟨⟨h1,h2⟩,hf⟩ m2
 ·rcases Int.lt_or_le p.Int_ 0 with e | e
  ·exact absurd ⟨h,.inl e⟩ m3
  ·exact e
 ·cases hf:ltZ p.Re with
  | false=>rfl
  | true=>exact absurd ⟨h,.inr hf⟩ m3
theorem PV.to {p:Pt} (v:PV p):pcE p=0:=by
 have hk:kindsB p=true:=by
  unfold kindsB
  rcases v.k with ⟨h1,h2⟩|⟨h1,h2⟩
  ·rw [if_pos h1,decide_eq_true h2]
  ·rw [if_neg (by omega),decide_eq_true (by omega),decide_eq_true h2];rfl
 have ht:timesB p=true:=by
  unfold timesB;rw [decide_eq_true_iff];refine ⟨v.t0,v.t1,?_⟩
  by_cases h:p.Kind=3
  ·rw [if_pos h];exact v.t2 h
  ·rw [if_neg h];exact v.t3 h
 have ho:ownB p=true:=by
  unfold ownB;rw [decide_eq_true_iff];exact ⟨v.oi,v.re,v.im,λh=>(bare_iff _).2 (v.oh h),v.f0,v.f1⟩
 unfold pcE;rw [if_neg (λh=>h v.c),hk,ht,ho,if_neg (by decide),if_neg,if_neg (by decide),if_neg (by decide),if_neg,if_neg]
 ·by_cases h:p.Kind=4
  ·rw [if_pos h];exact (v.h h).to
  ·rw [if_neg h]
 ·rintro ⟨h1,h2 | h2⟩
  ·have:=v.mi h1;omega
  ·rw [v.mr h1] at h2;exact absurd h2 (by decide)
 ·rintro ⟨⟨h1,h2⟩,h3⟩
  rw [v.ff h1 h2] at h3;exact absurd h3 (by decide)
 ·rintro ⟨h1,h2⟩
  have:=v.ms h1;omega
end Go.Proofs.YtaikmpmokihciaaGreat
set_option maxRecDepth 20000
set_option linter.unusedVariables false
set_option linter.unusedSimpArgs false
namespace Go.Proofs.YtaikmpmokihciaaGreat
open Go Go.RowKit Go.Wk
structure IS (mo:Bool) (s:St):Prop where
 l:LH s.Hist
 s0:0≤s.Start
 s1:s.Start≤s.Time
 i:mo=true→0≤s.Int_
 r:mo=true→finB s.Re=true∧ltZ s.Re=false∧finB s.Im=true
theorem IS.zero (mo:Bool):IS mo st0:=⟨.z,by decide,by decide,λ_=>by decide,λ_=>⟨by decide,by decide,by decide⟩⟩
theorem PV.times {p:Pt} (v:PV p):p.Start≤p.Time:=by
 by_cases h:p.Kind=3
 ·have:=v.t2 h;omega
 ·have:=v.t3 h;omega
theorem PV.fin {p:Pt} (v:PV p) (h:p.Mono=true):finB p.Re=true∧ltZ p.Re=false∧finB p.Im=true:=by
 have hk:=v.ms h;refine ⟨?_,v.mr h,?_⟩
 ·by_cases h2:p.Kind=2
  ·exact v.ff h h2
  ·rw [v.re (by omega)];decide
 ·rw [v.im (by omega)];decide
theorem IS.fresh {p:Pt} (v:PV p) (hp:Few p):IS p.Mono ⟨true,p.Start,p.Time,p.Int_,p.Re,p.Im,p.Hist⟩:=
 ⟨hp.h,v.t0,v.times,λh=>v.mi h,λh=>v.fin h⟩
theorem IS.pass {p:Pt} (v:PV p) (mo:Bool):IS mo ⟨true,p.Start,p.Time,0,0,0,hZ⟩:=
 ⟨.z,v.t0,v.times,λ_=>Int.le_refl 0,λ_=>(IS.zero true).r rfl⟩
structure FV (p:Pt) (b:Int) (q:Pt):Prop where
 v:PV q
 w:Few q
 e:∃ h,q={ p with Hist:=h }
 lp:(q.Hist.Pos.Counts.length:Int)≤b
 ln:(q.Hist.Neg.Counts.length:Int)≤b
theorem FV.same {p:Pt} {b:Int} (hb:0≤b) (v:PV p) (w:Few p) (h4:p.Kind≠4):FV p b p:=
 ⟨v,w,⟨_,rfl⟩,by rw [v.oh h4];exact hb,by rw [v.oh h4];exact hb⟩
theorem FV.fit {p:Pt} {b:Int} (v:PV p) (w:Few p) (h4:p.Kind=4) {r:T_api_Hist×Int} (hr:FitV b r) (h0:r.2=0):FV p b { p with Hist:=r.1 }:=
 ⟨⟨v.c,v.k,v.ms,v.t0,v.t1,v.t2,v.t3,v.oi,v.re,v.im,λh=>absurd h4 h,v.f0,v.f1,v.ff,v.mi,v.mr,λ_=>hr.v h0⟩,⟨w.a,hr.l.p,hr.l.n⟩,⟨_,rfl⟩,hr.p h0,hr.n h0⟩
structure NV (p:Pt) (tm b:Int) (r:St×Pt×Int):Prop where
 v:PV r.2.1
 w:Few r.2.1
 nm:r.2.1.Name=p.Name
 at_:r.2.1.Attrs=p.Attrs
 kd:r.2.1.Kind=p.Kind
 mo:r.2.1.Mono=p.Mono
 ti:r.2.1.Time=p.Time
 te:r.2.1.Temp=tm
 lp:(r.2.1.Hist.Pos.Counts.length:Int)≤b
 ln:(r.2.1.Hist.Neg.Counts.length:Int)≤b
 st:IS p.Mono r.1
theorem z31:(0:Int)≤31:=by decide
structure LV (p:Pt) (b:Int) (d:T_todelta_value×Int):Prop where
 l:LH d.1.h
 f0:0≤d.2
 f1:d.2≤31
 i:d.2=0→p.Kind≠1→d.1.i=0
 re:d.2=0→¬(p.Kind=2∨p.Kind=5)→d.1.re=0
 im:d.2=0→p.Kind≠5→d.1.im=0
 h:d.2=0→p.Kind≠4→d.1.h=hZ
 h4:d.2=0→p.Kind=4→RH d.1.h∧(d.1.h.Pos.Counts.length:Int)≤b∧(d.1.h.Neg.Counts.length:Int)≤b
 mi:d.2=0→p.Mono=true→0≤d.1.i
 mr:d.2=0→p.Mono=true→finB d.1.re=true∧ltZ d.1.re=false
theorem LV.flag {p:Pt} {b f:Int} (h0:0<f) (h1:f≤31):LV p b (⟨0,0,0,hZ⟩,f):=
 ⟨.z,by dsimp only;omega,h1,λh=>by dsimp only at h;omega,λh=>by dsimp only at h;omega,λh=>by dsimp only at h;omega,λh=>by dsimp only at h;omega,λh=>by dsimp only at h;omega,λh=>by dsimp only at h;omega,λh=>by dsimp only at h;omega⟩
theorem less_ok {p:Pt} {s:St} {b:Int} (hb:0≤b) (hv:PV p) (hw:Few p) (hi:p.Int_≤9223372036854775807) (hlp:(p.Hist.Pos.Counts.length:Int)≤b) (hln:(p.Hist.Neg.Counts.length:Int)≤b) (hs:IS p.Mono s) (h3:p.Kind≠3) :
 Tot (LV p b) (m_todelta_less p ⟨s.Int_,s.Re,s.Im,s.Hist⟩):=by
 unfold m_todelta_less;have z0:finB 0=true∧ltZ 0=false:=⟨by decide,by decide⟩
 refine Tot.ite (λh1=>?_) λh1=>Tot.ite (λh2=>?_) λh2=>Tot.ite (λh5=>?_) λh5=>?_
 ·refine Tot.ite (λ_=>.some (.flag (by omega) (by omega))) λc1=>Tot.ite (λ_=>.some (.flag (by omega) (by omega))) λc2=>?_
  refine .some ⟨.z,Int.le_refl 0,z31,λ_ h=>absurd h1 h,λ_ _=>rfl,λ_ _=>rfl,λ_ _=>rfl,λ_ h=>by omega,λ_ hm=>?_,λ_ _=>z0⟩;have a1:=hs.i hm
  have a2:s.Int_≤p.Int_:=by
   rcases Int.lt_or_le p.Int_ s.Int_ with h|h
   ·exact absurd ⟨hm,h⟩ c1
   ·exact h
  show 0≤W64 (p.Int_-s.Int_);rw [W64_id (by omega) (by omega)];omega
 ·refine (nsub_ok _ _).bind λz hz=>Tot.jn (R:=λy=>y=false→p.Mono=true→fltLt p.Re s.Re=false) (λy hy=>Tot.ite (λ_=>.some (.flag (by omega) (by omega))) λc1=>?_) λj hj=>?_
  ·rw [dfin_eq (by simp),bndS]
   refine Tot.jn (R:=λy=>y=false→p.Mono=true→finB z=true) (λy2 hy2=>Tot.ite (λ_=>.some (.flag (by omega) (by omega))) λc2=>?_) λj hj=>Tot.ite (λc=>?_) λc=>hj _ λ_ _=>?_
   ·refine .some ⟨.z,Int.le_refl 0,z31,λ_ _=>rfl,λ_ h=>absurd (.inl h2) h,λ_ _=>rfl,λ_ _=>rfl,λ_ h=>by omega,λ_ _=>Int.le_refl 0,λ_ hm=>?_⟩
    obtain ⟨f1,f2,f3⟩:=hs.r hm;refine ⟨hy2 (by simpa using c2) hm,hz (hv.fin hm).1 f1 (hy (by simpa using c1) hm)⟩
   ·rw [dfin_eq (by simp),bndS]
    refine hj _ λh hm=>?_
    obtain ⟨f1,f2,f3⟩:=hs.r hm;have:=(hv.fin hm).1;simp [f1,this] at h
   ·simpa using c
  ·refine Tot.ite (λ_=>?_) λh=>hj _ λ_ hm=>absurd hm h
   rw [nless_eq,bndS]
   exact hj _ λh _=>h
 ·have hm:p.Mono=true→False:=λhm=>by have:=hv.ms hm;omega
  refine (nsubp_tot _ _ _ _).bind λz _=>?_
  rw [dfin_eq (by simp),bndS]
  refine Tot.jn (R:=λ_=>True) (λy2 _=>Tot.ite (λ_=>.some (.flag (by omega) (by omega))) λ_=>?_) λj hj=>Tot.ite (λc=>?_) λc=>hj _ trivial
  ·exact .some ⟨.z,Int.le_refl 0,z31,λ_ _=>rfl,λ_ h=>absurd (.inr h5) h,λ_ h=>absurd h5 h,λ_ _=>rfl,λ_ h=>by omega,λ_ h=>(hm h).elim,λ_ h=>(hm h).elim⟩
  ·rw [dfin_eq (by simp),bndS]
   exact hj _ trivial
 ·have hm:p.Mono=true→False:=λhm=>by have:=hv.ms hm;omega
  refine (Sub_ok hw.h hs.l).bind λr hr=>Tot.ite (λ_=>.some (.flag (by omega) (by omega))) λc=>?_
  have v:=hr.2 (Decidable.not_not.1 c);refine .some ⟨hr.1,Int.le_refl 0,z31,λ_ _=>rfl,λ_ _=>rfl,λ_ _=>rfl,λ_ h4=>?_,λ_ _=>⟨v.ok,by have:=v.p;dsimp only;omega,by have:=v.n;dsimp only;omega⟩,λ_ h=>(hm h).elim,λ_ h=>(hm h).elim⟩;have:=hv.k;omega
theorem begins_ok (s:St) (p:Pt):Tot (λf=>0≤f∧f≤31) (m_todelta_begins s p):=by
 unfold m_todelta_begins
 exact Tot.ite (λ_=>.some ⟨by decide,by decide⟩) λ_=>Tot.ite (λ_=>.some ⟨by decide,by decide⟩) λ_=>Tot.ite (λ_=>.some ⟨by decide,by decide⟩) λ_=>.some ⟨by decide,by decide⟩
theorem begins_zero {s:St} {p:Pt}:Tot (λf=>f=0→s.Some=true) (m_todelta_begins s p):=by
 unfold m_todelta_begins
 refine Tot.ite (λ_=>.some λh=>by simp at h) λh=>?_
 have hs:s.Some=true:=by simpa using h
 exact Tot.ite (λ_=>.some λ_=>hs) λ_=>Tot.ite (λ_=>.some λ_=>hs) λ_=>.some λ_=>hs
theorem dcheck_ok (s:St) (p:Pt):Tot (λe=>e=0→s.Some=true→s.Time<p.Time) (m_todelta_check s p):=by
 unfold m_todelta_check
 refine Tot.ite (λh=>.some λ_ hs=>by rw [hs] at h;simp at h) λ_=>Tot.ite (λ_=>.some λh=>by simp at h) λh=>?_
 exact Tot.jn (R:=λ_=>True) (λy _=>Tot.ite (λ_=>.some λh=>by simp at h) λ_=>.some λ_ _=>by omega) λj hj=>Tot.ite (λ_=>hj _ trivial) λ_=>hj _ trivial
theorem dNext_ok {s:St} {p:Pt} {b:Int} (hb:0≤b) (hs:IS p.Mono s) (hp:Few p) (hv:PV p) (hi:p.Int_≤9223372036854775807) (hT:p.Temp=1) (hF:p.Flags=0) :
 Tot (λr=>r.2.2=0→NV p 2 b r∧r.1.Int_≤9223372036854775807) (m_todelta_Next s p b):=by
 have h3:p.Kind≠3:=by have:=hv.k;omega
 unfold m_todelta_Next;rw [PCheck_eq p hp.p hp.n,bndS,hv.to]
 refine Tot.jn2 (R:=λe q=>e=0→FV p b q) (λe q hq=>?_) λj hj=>?_
 ·refine Tot.jn (R:=λe2=>e2=0→FV p b q∧(s.Some=true→s.Time<q.Time)) (λe2 he2=>?_) λj hj=>?_
  ·refine Tot.ite (λh=>.some λh2=>absurd h2 h) λh=>?_
   obtain ⟨fv,hlt⟩:=he2 (Decidable.not_not.1 h);obtain ⟨v,w,⟨hh,rfl⟩,lp,ln⟩:=fv;rw [clone_pt _ w,bndS]
   refine Tot.jn (R:=λy=>IS p.Mono y∧y.Int_≤9223372036854775807) (λy hy0=>?_) λj hj=>?_
   ·obtain ⟨hy,hyi⟩:=hy0
    obtain ⟨f,hf1,hf2⟩:=begins_ok s { p with Hist:=hh };obtain ⟨f',hf1',hf3⟩:=begins_zero (s:=s) (p:={ p with Hist:=hh });rw [hf1] at hf1';obtain rfl:=Option.some.inj hf1';rw [hf1,bndS]
    refine Tot.ite (λ_=>.some λ_=>⟨⟨⟨v.c,?_,v.ms,v.t0,v.t1,v.t2,v.t3,v.oi,v.re,v.im,v.oh,hf2.1,hf2.2,v.ff,v.mi,v.mr,v.h⟩,⟨w.a,w.p,w.n⟩,rfl,rfl,rfl,rfl,rfl,rfl,lp,ln,hy⟩,hyi⟩) λh0=>?_
    ·have:=v.k;dsimp only at this ⊢;omega
    have hsome:=hf3 (Decidable.not_not.1 h0);have hlt':=hlt hsome
    refine (less_ok hb v w hi lp ln hs h3).bind λd hd=>?_
    refine Tot.jn2 (R:=λy q=>NV p 2 b (y,q,0)∧y.Int_≤9223372036854775807) (λy q h=>.some λ_=>h) λj hj=>?_
    have vq:∀ (i:Int) (re im:UInt64) (h:T_api_Hist) (f:Int),PV ⟨p.Name,p.Attrs,p.Kind,p.Temp,p.Mono,p.Start,p.Time,i,re,im,h,0⟩→0≤f→f≤31→PV ⟨p.Name,p.Attrs,p.Kind,2,p.Mono,s.Time,p.Time,i,re,im,h,f⟩:=λi re im h f u g0 g1=>
     ⟨u.c,by have:=u.k;dsimp only at this ⊢;omega,u.ms,by have:=hs.s0;have:=hs.s1;dsimp only;omega,u.t1,λe=>absurd e h3,λ_=>hlt',u.oi,u.re,u.im,u.oh,g0,g1,u.ff,u.mi,u.mr,u.h⟩
    refine Tot.ite (λhw0=>?_) λhw0=>?_
    ·have vd:PV ⟨p.Name,p.Attrs,p.Kind,p.Temp,p.Mono,p.Start,p.Time,d.1.i,d.1.re,d.1.im,d.1.h,0⟩:=
      ⟨v.c,v.k,v.ms,v.t0,v.t1,v.t2,v.t3,hd.i hw0,λh=>hd.re hw0 (by dsimp only at h ⊢;omega),hd.im hw0,hd.h hw0,Int.le_refl 0,z31,λh1 _=>(hd.mr hw0 h1).1,λh1=>hd.mi hw0 h1,λh1=>(hd.mr hw0 h1).2,λh4=>(hd.h4 hw0 h4).1⟩
     have lens:(d.1.h.Pos.Counts.length:Int)≤b∧(d.1.h.Neg.Counts.length:Int)≤b:=by
      by_cases h4:p.Kind=4
      ·exact (hd.h4 hw0 h4).2
      ·rw [hd.h hw0 h4];exact ⟨hb,hb⟩
     refine Tot.ite (λh4=>?_) λh4=>hj _ _ ⟨⟨vq _ _ _ _ _ vd hd.f0 hd.f1,⟨w.a,hd.l.p,hd.l.n⟩,rfl,rfl,rfl,rfl,rfl,rfl,lens.1,lens.2,hy⟩,hyi⟩
     refine (LevV_tot w.h hs.l).bind λl hl=>hj _ _ ⟨⟨vq _ _ _ _ _ vd hd.f0 hd.f1,⟨w.a,hd.l.p,hd.l.n⟩,rfl,rfl,rfl,rfl,rfl,rfl,lens.1,lens.2,⟨hl.l.a,hy.s0,hy.s1,hy.i,hy.r⟩⟩,hyi⟩
    ·have v0:PV ⟨p.Name,p.Attrs,p.Kind,p.Temp,p.Mono,p.Start,p.Time,p.Int_,p.Re,p.Im,hh,0⟩:=⟨v.c,v.k,v.ms,v.t0,v.t1,v.t2,v.t3,v.oi,v.re,v.im,v.oh,Int.le_refl 0,z31,v.ff,v.mi,v.mr,v.h⟩
     exact hj _ _ ⟨⟨vq _ _ _ _ _ v0 hd.f0 hd.f1,⟨w.a,w.p,w.n⟩,rfl,rfl,rfl,rfl,rfl,rfl,lp,ln,hy⟩,hyi⟩
   ·rw [hclone_eq _ w.p w.n,bndS]
    exact hj _ ⟨IS.fresh v w,hi⟩
  ·refine Tot.ite (λh0=>?_) λh0=>hj _ λh=>absurd h h0
   exact (dcheck_ok s q).bind λe2 he2=>hj _ λh=>⟨hq h0,he2 h⟩
 ·rw [if_neg (by simp),if_neg (by omega),if_neg (by omega)]
  refine Tot.ite (λh4=>?_) λh4=>hj _ _ λ_=>.same hb hv hp h4
  exact (Fit_ok hp.h b).bind λr hr=>hj _ _ λh0=>.fit hv hp h4 hr h0
theorem ccheck_ok (s:St) (p:Pt):Tot (λe=>e=0→s.Some=true→s.Time<p.Time) (m_tocum_check s p):=by
 unfold m_tocum_check
 refine Tot.jn (R:=λ_=>s.Some=true→s.Time<p.Time) (λ_ h=>.some λ_=>h) λj hj=>Tot.ite (λh=>hj _ λhs=>by rw [hs] at h;simp at h) λ_=>Tot.ite (λ_=>.some λh=>by simp at h) λh=>Tot.ite (λ_=>.some λh=>by simp at h) λ_=>hj _ λ_=>by omega
theorem answer_ok {s:St} {p:Pt} {b f:Int} (hb:0≤b) (hv:PV p) (hp:Few p) (h3:p.Kind≠3) (hs:IS p.Mono s) (f0:0≤f) (f1:f≤31) (hst:s.Start<p.Time) (hh:p.Kind=4→RH s.Hist∧(s.Hist.Pos.Counts.length:Int)≤b∧(s.Hist.Neg.Counts.length:Int)≤b) :
 Tot (λq=>NV p 1 b (s,q,0)) (m_tocum_answer s p f):=by
 unfold m_tocum_answer;rw [clone_pt p hp,bndS];have kk:=hv.k;have mk:∀ (i:Int) (re im:UInt64) (h:T_api_Hist),(p.Kind≠1→i=0)→(¬(p.Kind=2∨p.Kind=3∨p.Kind=5)→re=0)→(p.Kind≠5→im=0)→(p.Kind≠4→h=hZ)→(p.Mono=true→0≤i∧finB re=true∧ltZ re=false)→LH h→(p.Kind=4→RH h)→(h.Pos.Counts.length:Int)≤b→(h.Neg.Counts.length:Int)≤b →
  NV p 1 b (s,⟨p.Name,p.Attrs,p.Kind,1,p.Mono,s.Start,p.Time,i,re,im,h,f⟩,0):=λi re im h a1 a2 a3 a4 a5 a6 a7 a8 a9=>
  ⟨⟨hv.c,by dsimp only;omega,hv.ms,hs.s0,hv.t1,λe=>absurd e h3,λ_=>hst,a1,a2,a3,a4,f0,f1,λm _=>(a5 m).2.1,λm=>(a5 m).1,λm=>(a5 m).2.2,a7⟩,⟨hp.a,a6.p,a6.n⟩,rfl,rfl,rfl,rfl,rfl,rfl,a8,a9,hs⟩
 have z0:finB 0=true∧ltZ 0=false:=⟨by decide,by decide⟩
 refine Tot.jn (R:=λq=>NV p 1 b (s,q,0)) (λy hy=>.some hy) λj hj=>Tot.ite (λh1=>hj _ (mk _ _ _ _ (λh=>absurd h1 h) (λ_=>rfl) (λ_=>rfl) (λ_=>rfl) (λm=>⟨hs.i m,z0⟩) .z (λh=>by omega) hb hb)) λh1=>Tot.ite (λh2=>hj _ (mk _ _ _ _ (λ_=>rfl) (λh=>absurd (.inl h2) h) (λ_=>rfl) (λ_=>rfl) (λm=>⟨by decide,(hs.r m).1,(hs.r m).2.1⟩) .z (λh=>by omega) hb hb)) λh2=>Tot.ite (λh5=>hj _ (mk _ _ _ _ (λ_=>rfl) (λh=>absurd (.inr (.inr h5)) h) (λh=>absurd h5 h) (λ_=>rfl) (λm=>by have:=hv.ms m;omega) .z (λh=>by omega) hb hb)) λh5=>?_
 rw [hclone_eq s.Hist hs.l.p hs.l.n,bndS]
 have h4:p.Kind=4:=by omega
 obtain ⟨g1,g2,g3⟩:=hh h4;exact hj _ (mk _ _ _ _ (λ_=>rfl) (λ_=>rfl) (λ_=>rfl) (λh=>absurd h4 h) (λm=>by have:=hv.ms m;omega) hs.l (λ_=>g1) g2 g3)
structure CS (p:Pt) (b:Int) (s t:St):Prop where
 i:IS p.Mono t
 st:t.Start=s.Start
 ti:t.Time=p.Time
 so:t.Some=true
 h:p.Kind=4→RH t.Hist∧(t.Hist.Pos.Counts.length:Int)≤b∧(t.Hist.Neg.Counts.length:Int)≤b
theorem cNext_ok {s:St} {p:Pt} {b:Int} (hb:0≤b) (hs:IS p.Mono s) (hp:Few p) (hv:PV p) (hi:p.Int_≤9223372036854775807) (hsi:s.Int_≤9223372036854775807) (hT:p.Temp=2) (hF:p.Flags=0) :
 Tot (λr=>r.2.2=0→NV p 1 b r∧r.1.Int_≤9223372036854775807) (m_tocum_Next s p b):=by
 have h3:p.Kind≠3:=by have:=hv.k;omega
 unfold m_tocum_Next;rw [PCheck_eq p hp.p hp.n,bndS,hv.to]
 refine Tot.jn2 (R:=λe q=>e=0→FV p b q) (λe q hq=>?_) λj hj=>?_
 ·refine Tot.jn (R:=λe2=>e2=0→FV p b q∧(s.Some=true→s.Time<q.Time)) (λe2 he2=>?_) λj hj=>?_
  ·refine Tot.ite (λh=>.some λh2=>absurd h2 h) λh=>?_
   obtain ⟨fv,hlt⟩:=he2 (Decidable.not_not.1 h);obtain ⟨v,w,⟨hh,rfl⟩,lp,ln⟩:=fv;have fr:=IS.fresh v w
   refine Tot.jn2 (R:=λf y=>0≤f∧f≤31∧y.Int_≤9223372036854775807∧(f=0→s.Some=true∧CS { p with Hist:=hh } b s y)) (λf y hy=>?_) λj3 hj3=>?_
   ·obtain ⟨f0,f1,fi,fz⟩:=hy
    refine Tot.jn (R:=λy=>IS p.Mono y∧y.Start<p.Time∧y.Int_≤9223372036854775807∧(p.Kind=4→RH y.Hist∧(y.Hist.Pos.Counts.length:Int)≤b∧(y.Hist.Neg.Counts.length:Int)≤b)) (λy hy=>?_) λj hj=>?_
    ·obtain ⟨y1,y2,y3,y4⟩:=hy
     rw [hclone_eq y.Hist y1.l.p y1.l.n,bndS]
     refine (answer_ok (s:=⟨y.Some,y.Start,y.Time,y.Int_,y.Re,y.Im,y.Hist⟩) hb v w h3 ⟨y1.l,y1.s0,y1.s1,y1.i,y1.r⟩ f0 f1 y2 y4).bind λr hr=>.some λ_=>⟨?_,y3⟩
     exact ⟨hr.v,hr.w,hr.nm,hr.at_,hr.kd,hr.mo,hr.ti,hr.te,hr.lp,hr.ln,hr.st⟩
    ·refine Tot.ite (λ_=>hj _ ⟨fr,v.t3 h3,hi,λh4=>⟨v.h h4,lp,ln⟩⟩) λh0=>?_
     obtain ⟨so,cs⟩:=fz (Decidable.not_not.1 h0);have:=hlt so;refine hj _ ⟨cs.i,?_,fi,cs.h⟩;rw [cs.st];have:=hs.s1;show s.Start<p.Time;dsimp only at *
     omega
   ·refine Tot.ite (λ_=>hj3 _ _ ⟨by decide,by decide,hsi,λh=>by simp at h⟩) λhso=>Tot.ite (λ_=>hj3 _ _ ⟨by decide,by decide,hsi,λh=>by simp at h⟩) λ_=>?_
    have so:s.Some=true:=by simpa using hso
    have ht:=hlt so
    have base:∀ (i:Int) (re im:UInt64) (h:T_api_Hist),(p.Mono=true→0≤i)→(p.Mono=true→finB re=true∧ltZ re=false∧finB im=true)→LH h→(p.Kind=4→RH h∧(h.Pos.Counts.length:Int)≤b∧(h.Neg.Counts.length:Int)≤b)→CS { p with Hist:=hh } b s ⟨true,s.Start,p.Time,i,re,im,h⟩:=λi re im h a1 a2 a3 a4=>
     ⟨⟨a3,hs.s0,by have:=hs.s1;dsimp only at *;omega,a1,a2⟩,rfl,rfl,rfl,a4⟩
    refine Tot.jn2 (R:=λf y=>y.Int_≤9223372036854775807∧(f=true→CS { p with Hist:=hh } b s y)) (λf y hy=>Tot.ite (λ_=>hj3 _ _ ⟨by decide,by decide,hy.1,λh=>by simp at h⟩) λh=>hj3 _ _ ⟨by decide,by decide,hy.1,λ_=>⟨so,hy.2 (by simpa using h)⟩⟩) λj5 hj5=>?_
    refine Tot.jn (R:=λy=>y.Int_≤9223372036854775807∧CS { p with Hist:=hh } b s y) (λy hy=>hj5 _ _ ⟨hy.1,λ_=>hy.2⟩) λj6 hj6=>?_
    refine Tot.ite (λk1=>?_) λk1=>Tot.ite (λk4=>?_) λk4=>?_
    ·refine Tot.jn (R:=λy=>y=false→decide (W64 (s.Int_+p.Int_)>s.Int_)=decide (p.Int_>0)∨p.Int_=0) (λy hy=>Tot.ite (λ_=>hj5 _ _ ⟨hsi,λh=>by simp at h⟩) λc=>hj6 _ ⟨?_,base _ _ _ _ (λm=>?_) (λm=>hs.r m) hs.l (λh=>by have k1':p.Kind=1:=k1;omega)⟩) λj hj=>Tot.ite (λc=>hj _ λh=>.inr ?_) λc=>hj _ λ_=>.inl (Decidable.not_not.1 c)
     ·show W64 (s.Int_+p.Int_)≤_
      unfold W64 IntKind.wrap IntKind.signed IntKind.bits;simp
      omega
     ·have a1:=hs.i m;have a2:=v.mi m
      dsimp only at a2
      rcases hy (by simpa using c) with h|h
      ·rw [decide_eq_decide] at h
       by_cases hp0:p.Int_>0
       ·have:=h.2 hp0
        dsimp only;omega
       ·have:p.Int_=0:=by omega
        dsimp only;rw [this,W64_id (by omega) (by omega)];omega
      ·dsimp only
       rw [h,W64_id (by omega) (by omega)];omega
     ·simpa using h
    ·refine Tot.jn2 (R:=λy f=>LH y∧(f=true→RH y∧(y.Pos.Counts.length:Int)≤b∧(y.Neg.Counts.length:Int)≤b)) (λy f hy=>Tot.ite (λ_=>hj5 _ _ ⟨hsi,λh=>by simp at h⟩) λc=>hj6 _ ⟨hsi,base _ _ _ _ (λm=>hs.i m) (λm=>hs.r m) hy.1 λ_=>hy.2 (by simpa using c)⟩) λj hj=>?_
     exact (Tog_ok hs.l w.h b).bind λr hr=>hj _ _ ⟨hr.l,λh=>⟨hr.v h,hr.p h,hr.n h⟩⟩
    ·refine (naddp_ok _ _ _ _).bind λz hz=>Tot.jn (R:=λy=>y=false→p.Mono=true→finB z.1=true∧finB z.2=true) (λy hy=>Tot.ite (λ_=>hj5 _ _ ⟨hsi,λh=>by simp at h⟩) λc=>hj6 _ ⟨hsi,base _ _ _ _ (λm=>hs.i m) (λm=>?_) hs.l (λh=>absurd h k4)⟩) λj hj=>?_
     ·obtain ⟨a1,a2⟩:=hy (by simpa using c) m
      obtain ⟨f1,f2,f3⟩:=hs.r m;obtain ⟨g1,g2,g3⟩:=v.fin m;exact ⟨a1,hz f1 g1 f2 g2,a2⟩
     ·rw [cfin_eq (by simp),bndS]
      refine Tot.ite (λc=>?_) λc=>hj _ λ_ _=>?_
      ·rw [cfin_eq (by simp),bndS]
       refine hj _ λh m=>?_
       obtain ⟨f1,f2,f3⟩:=hs.r m;obtain ⟨g1,g2,g3⟩:=v.fin m;dsimp only at g1 g3;simp [f1,f3,g1,g3] at h
      ·simpa using c
  ·refine Tot.ite (λh0=>?_) λh0=>hj _ λh=>absurd h h0
   exact (ccheck_ok s q).bind λe2 he2=>hj _ λh=>⟨hq h0,he2 h⟩
 ·rw [if_neg (by simp),if_neg (by omega),if_neg (by omega)]
  refine Tot.ite (λh4=>?_) λh4=>hj _ _ λ_=>.same hb hv hp h4
  exact (Fit_ok hp.h b).bind λr hr=>hj _ _ λh0=>.fit hv hp h4 hr h0
theorem pass_ok {s:St} {p:Pt} {b:Int} (hp:Few p) (hv:PV p) (hF:p.Flags=0) (lp:(p.Hist.Pos.Counts.length:Int)≤b) (ln:(p.Hist.Neg.Counts.length:Int)≤b) :
 Tot (λr=>r.2.2=0→NV p p.Temp b r∧r.1.Int_≤9223372036854775807) (m_convert_pass s p b):=by
 unfold m_convert_pass;rw [clone_pt p hp,bndS]
 have mk:∀ f:Int,0≤f→f≤31→NV p p.Temp b (⟨true,p.Start,p.Time,0,0,0,hZ⟩,{ p with Flags:=f },0):=λf f0 f1=>
  ⟨⟨hv.c,hv.k,hv.ms,hv.t0,hv.t1,hv.t2,hv.t3,hv.oi,hv.re,hv.im,hv.oh,f0,f1,hv.ff,hv.mi,hv.mr,hv.h⟩,⟨hp.a,hp.p,hp.n⟩,rfl,rfl,rfl,rfl,rfl,rfl,lp,ln,.pass hv _⟩
 have m0:NV p p.Temp b (⟨true,p.Start,p.Time,0,0,0,hZ⟩,p,0):=by
  have m1:=mk 0 (by decide) (by decide)
  have e:({ p with Flags:=0 }:Pt)=p:=by rw [← hF]
  rw [e] at m1;exact m1
 refine Tot.jn (R:=λy=>NV p p.Temp b (⟨true,p.Start,p.Time,0,0,0,hZ⟩,y,0)) (λy hy=>.some λ_=>⟨hy,by show (0:Int)≤_;omega⟩) λj hj=>Tot.ite (λ_=>hj _ (mk 1 (by decide) (by decide))) λ_=>Tot.ite (λ_=>.some λh=>by simp at h) λ_=>Tot.ite (λ_=>.some λh=>by simp at h) λ_=>Tot.ite (λ_=>hj _ (mk 8 (by decide) (by decide))) λ_=>hj _ m0
end Go.Proofs.YtaikmpmokihciaaGreat
set_option maxRecDepth 20000
set_option linter.unusedVariables false
set_option linter.unusedSimpArgs false
namespace Go.Proofs.YtaikmpmokihciaaGreat
open Go Go.RowKit Go.Wk
abbrev Wr:=T_pack_Writer
end Go.Proofs.YtaikmpmokihciaaGreat
set_option maxRecDepth 20000
set_option linter.unusedVariables false
set_option linter.unusedSimpArgs false
namespace Go.Proofs.YtaikmpmokihciaaGreat
open Go Go.RowKit Go.Wk
structure GoodC (cfg:T_api_Config):Prop where
 o0:0≤cfg.Out
 o1:cfg.Out≤2
 s0:1≤cfg.Series
 s1:cfg.Series≤16
 b0:1≤cfg.Buckets
 b1:cfg.Buckets≤160
theorem fc_ok {cfg:T_api_Config} (hg:GoodC cfg) {p:Pt} {s:St} (hs:IS p.Mono s) (hsi:s.Int_≤9223372036854775807) (hp:Few p) (hv:PV p) (hi:p.Int_≤9223372036854775807) (hF:p.Flags=0) (lp:(p.Hist.Pos.Counts.length:Int)≤cfg.Buckets) (ln:(p.Hist.Neg.Counts.length:Int)≤cfg.Buckets) :
 Tot (λr=>r.2.2=0→NV p (if p.Temp=0∨cfg.Out=0 then p.Temp else cfg.Out) cfg.Buckets r∧r.1.Int_≤9223372036854775807) (m_fc_1 (rdN cfg.Out p.Temp) s p cfg.Buckets):=by
 have hb:=hg.b0;have o0:=hg.o0;have o1:=hg.o1;have hk:=hv.k
 by_cases c1:p.Temp=1∧cfg.Out=2
 ·rw [if_neg (by omega:¬(p.Temp=0∨cfg.Out=0))]
  unfold rdN m_fc_1;rw [if_pos c1,if_pos rfl,c1.2];exact dNext_ok (by omega) hs hp hv hi c1.1 hF
 ·by_cases c2:p.Temp=2∧cfg.Out=1
  ·rw [if_neg (by omega:¬(p.Temp=0∨cfg.Out=0))]
   unfold rdN m_fc_1;rw [if_neg c1,if_pos c2,if_neg (by omega),if_pos rfl,c2.2];exact cNext_ok (by omega) hs hp hv hi hsi c2.1 hF
  ·have e:(if p.Temp=0∨cfg.Out=0 then p.Temp else cfg.Out)=p.Temp:=by
    split
    ·rfl
    ·omega
   rw [e];unfold rdN m_fc_1;rw [if_neg c1,if_neg c2,if_neg (by omega),if_neg (by omega),if_pos rfl];exact pass_ok hp hv hF lp ln
theorem putP_len2 {α:Type} (k:List UInt8) (x y:α):∀ l:Kv α,lookP k l=some y→(putP k x l).length=l.length
 | [],h=>by simp [lookP] at h
 | p::r,h=>by
  unfold putP
  split
  ·simp
  ·rename_i h1
   have:lookP k r=some y:=by
    unfold lookP at h ⊢;simpa [List.find?_cons,h1] using h
   rw [List.length_cons,List.length_cons,putP_len2 k x y r this]
theorem putP_mem {α:Type} (k:List UInt8) (x:α):∀ l:Kv α,∀ e∈putP k x l,e=(k,x)∨e∈l
 | [],e,h=>by simp [putP] at h;exact .inl h
 | p::r,e,h=>by
  unfold putP at h
  split at h
  ·rcases List.mem_cons.1 h with h | h
   ·exact .inl h
   ·exact .inr (List.mem_cons_of_mem _ h)
  ·rcases List.mem_cons.1 h with h | h
   ·exact .inr (by rw [h];exact List.mem_cons_self)
   ·rcases putP_mem k x r e h with h | h
    ·exact .inl h
    ·exact .inr (List.mem_cons_of_mem _ h)
theorem PV.r {p:Pt} (v:PV p):PtR p:=pcE_ok v.to
theorem keyE_len {p:Pt} (v:PV p):(keyE p).length≤1000000:=by
 have:=text_len v.c;unfold keyE;rw [List.length_append];simp only [List.length_append,List.length_cons,List.length_nil] at *
 omega
end Go.Proofs.YtaikmpmokihciaaGreat
set_option maxRecDepth 20000
set_option linter.unusedVariables false
set_option linter.unusedSimpArgs false
namespace Go.Proofs.YtaikmpmokihciaaGreat
open Go Go.RowKit Go.Wk
theorem toU64_nn {x:Int} (h0:0≤x) (h1:x<9223372036854775808):toU64 x=UInt64.ofNat x.toNat:=by unfold toU64;congr 1;omega
def encs (l:List UInt64):List UInt8:=l.flatMap enc
theorem encs_len (l:List UInt64):(encs l).length≤9*l.length:=by
 induction l with
 | nil=>simp [encs]
 | cons x l ih=>have:=enc_len_le x;simp only [encs,List.flatMap_cons,List.length_append,List.length_cons] at ih ⊢;omega
def sideE (s:T_api_Side):List UInt8:=enc (UInt64.ofNat s.Counts.length)++((if s.Counts=[] then [] else enc (zig s.Offset))++encs s.Counts)
theorem sideE_len (s:T_api_Side):(sideE s).length≤9*s.Counts.length+18:=by
 have:=enc_len_le (UInt64.ofNat s.Counts.length);have:=enc_len_le (zig s.Offset);have:=encs_len s.Counts;unfold sideE
 split<;>simp only [List.length_append,List.length_nil]<;>omega
def sideOk (s:T_api_Side):Prop:=s.Counts.length≤160∧-1073741824≤s.Offset∧s.Offset≤1073741824∧(s.Counts=[]→s.Offset=0)
theorem RS.ok {s:T_api_Side} (r:RS s):sideOk s:=by
 have:=r.b.l;have:=r.b.a;have:=r.b.b;exact ⟨by omega,by omega,by omega,r.z⟩
theorem wside_eq (b:List UInt8) (s:T_api_Side) (hs:sideOk s) (hb:b.length≤100000):m_point_side ⟨b⟩ s=some ⟨b++sideE s⟩:=by
 unfold m_point_side;obtain ⟨h1,h2,h3,h4⟩:=hs;have hl:=enc_len_le (UInt64.ofNat s.Counts.length);have hz:=enc_len_le (zig s.Offset);rw [toU64_nn (by omega) (by omega),Int.toNat_natCast,wnum_eq _ _ (by omega),bndS]
 refine jn_post (λj=>∀ c:List UInt8,c.length≤200000→j ⟨c⟩=some ⟨c++encs s.Counts⟩) (λc hc=>?_) λj hj=>?_
 ·rw [jn_eq,m_point_side_L1_scan _ _ _ (by omega)]
  refine scanL_inv (λ(p:List UInt64) (w:T_pack_Writer)=>w=⟨c++encs p⟩) (λ(_ _:List UInt64) (_:T_pack_Writer)=>some (⟨c++encs s.Counts⟩:T_pack_Writer)) (by simp [encs]) (λw hw=>by rw [hw]) λp x q w k hp hw hk=>?_
  have hpl:=encs_len p
  have hpp:p.length≤160:=by have:=congrArg List.length hp;simp at this;omega
  rw [hw,bndS,wnum_eq _ _ (by simp;omega),bndS];exact hk _ (by simp [encs])
 ·by_cases hn:s.Counts=[]
  ·rw [if_neg (by simp [hn])]
   rw [hj _ (by simp;omega)];simp [sideE,hn]
  ·have:0<s.Counts.length:=List.length_pos_iff.2 hn
   rw [if_pos (by omega),wint_eq _ (by constructor<;>omega) (by simp;omega),bndS,hj _ (by simp;omega)];simp [sideE,hn]
def valE (p:Pt):List UInt8:=if p.Kind=1 then enc (zig p.Int_) else if p.Kind=5 then encF p.Re++encF p.Im else if p.Kind=4 then enc (zig p.Hist.Scale)++(enc p.Hist.Zero++(sideE p.Hist.Pos++sideE p.Hist.Neg)) else encF p.Re
def headE (p:Pt):List UInt8:=encT (p.Name++texts (srt p.Attrs))++(enc (UInt64.ofNat p.Kind.toNat)++(enc (UInt64.ofNat p.Temp.toNat)++(enc (UInt64.ofNat (mono p.Mono))++(enc (UInt64.ofNat p.Flags.toNat)++(enc (UInt64.ofNat p.Start.toNat)++enc (UInt64.ofNat (p.Time-p.Start).toNat))))))
def bytesE (p:Pt):List UInt8:=headE p++valE p
theorem encF_len (v:UInt64):(encF v).length=8:=fix_len _ _
theorem PV.nums {p:Pt} (h:PV p):1≤p.Kind∧p.Kind≤5∧0≤p.Temp∧p.Temp≤2∧0≤p.Flags∧p.Flags≤31∧0≤p.Start∧p.Start≤p.Time∧p.Time≤4503599627370496:=by
 have h1:=h.k;have h2:=h.t0;have h3:=h.t1;have h4:=h.f0;have h5:=h.f1
 have h6:p.Start≤p.Time:=by
  by_cases h:p.Kind=3
  ·rename_i v;have:=v.t2 h;omega
  ·rename_i v;have:=v.t3 h;omega
 refine ⟨?_,?_,?_,?_,h4,h5,h2,h6,h3⟩<;>omega
theorem valE_len {p:Pt} (h1:p.Hist.Pos.Counts.length≤300) (h2:p.Hist.Neg.Counts.length≤300):(valE p).length≤10000:=by
 have q1:=enc_len_le (zig p.Int_);have q2:=enc_len_le (zig p.Hist.Scale);have q3:=enc_len_le p.Hist.Zero;have q4:=sideE_len p.Hist.Pos;have q5:=sideE_len p.Hist.Neg;unfold valE
 split
 ·omega
 ·split
  ·simp [encF_len]
  ·split
   ·simp only [List.length_append];omega
   ·simp [encF_len]
theorem PV.hl {p:Pt} (v:PV p):p.Hist.Pos.Counts.length≤160∧p.Hist.Neg.Counts.length≤160:=by
 by_cases h4:p.Kind=4
 ·exact ⟨(v.h h4).p.b.l,(v.h h4).n.b.l⟩
 ·rw [v.oh h4];exact ⟨by decide,by decide⟩
theorem headE_len {p:Pt} (hp:PV p):(headE p).length≤2000:=by
 have htl:=text_len hp.c
 have g0:(encT (p.Name++texts (srt p.Attrs))).length≤1000:=by have:=enc_len_le (UInt64.ofNat (p.Name++texts (srt p.Attrs)).length);unfold encT;simp only [List.length_append] at htl this ⊢;omega
 have g1:=enc_len_le (UInt64.ofNat p.Kind.toNat);have g2:=enc_len_le (UInt64.ofNat p.Temp.toNat);have g3:=enc_len_le (UInt64.ofNat (mono p.Mono));have g4:=enc_len_le (UInt64.ofNat p.Flags.toNat);have g5:=enc_len_le (UInt64.ofNat p.Start.toNat);have g6:=enc_len_le (UInt64.ofNat (p.Time-p.Start).toNat);unfold headE;simp only [List.length_append] at *;omega
theorem bytes_eq {p:Pt} (hp:PV p) (hi:okI p.Int_):m_point_Bytes p=some (bytesE p,0):=by
 obtain ⟨l1,l2⟩:=hp.hl;unfold m_point_Bytes;rw [PCheck_eq p (by omega) (by omega),bndS,hp.to];rw [if_neg (by simp)];obtain ⟨k1,k2,t1,t2,f1,f2,s1,s2,s3⟩:=hp.nums;have htl:=text_len hp.c
 have hT:m_label_Text p.Name p.Attrs=some (p.Name++texts (srt p.Attrs),0):=by rw [text_eq,text,if_pos hp.c]
 have hbit:m_point_bit p.Mono=some (mono p.Mono:Int):=by unfold m_point_bit mono;cases p.Mono<;>rfl
 have hm1:mono p.Mono≤1:=by unfold mono;split<;>omega
 unfold m_pack_NewWriter;rw [bndS,hT,bndS];dsimp only;rw [wtext_eq _ _ (by simp) (by omega),bndS,hbit,bndS,List.nil_append]
 have g0:(encT (p.Name++texts (srt p.Attrs))).length≤1000:=by have:=enc_len_le (UInt64.ofNat (p.Name++texts (srt p.Attrs)).length);unfold encT;simp only [List.length_append] at htl this ⊢;omega
 have g1:=enc_len_le (UInt64.ofNat p.Kind.toNat);have g2:=enc_len_le (UInt64.ofNat p.Temp.toNat);have g3:=enc_len_le (UInt64.ofNat (mono p.Mono));have g4:=enc_len_le (UInt64.ofNat p.Flags.toNat);have g5:=enc_len_le (UInt64.ofNat p.Start.toNat);have g6:=enc_len_le (UInt64.ofNat (p.Time-p.Start).toNat);have gh:=headE_len hp;have hv:=valE_len (p:=p) (by omega) (by omega)
 refine jn_post (λj=>j ⟨headE p⟩=some (bytesE p,0)) ?_ λj hj=>?_
 ·refine jn_post (λj=>j ⟨bytesE p⟩=some (bytesE p,0)) ?_ λj hj=>?_
  ·unfold m_pack_Writer_Bytes
   rw [clone_eq _ (by unfold bytesE;simp only [List.length_append];omega)];rfl
  ·by_cases c1:p.Kind=1
   ·have hv:valE p=enc (zig p.Int_):=by unfold valE;rw [if_pos c1]
    rw [if_pos c1,wint_eq _ hi (by omega),bndS,← hv];exact hj
   ·rw [if_neg c1]
    by_cases c5:p.Kind=5
    ·have hv:valE p=encF p.Re++encF p.Im:=by unfold valE;rw [if_neg c1,if_pos c5]
     rw [if_pos c5,wfix_eq _ _ (by omega),bndS,wfix_eq _ _ (by simp [encF_len];omega),bndS,List.append_assoc,← hv];exact hj
    ·rw [if_neg c5]
     by_cases c4:p.Kind=4
     ·have hv:valE p=enc (zig p.Hist.Scale)++(enc p.Hist.Zero++(sideE p.Hist.Pos++sideE p.Hist.Neg)):=by unfold valE;rw [if_neg c1,if_neg c5,if_pos c4]
      have rh:=hp.h c4;have a1:=rh.lo;have a2:=rh.hi;have q2:=enc_len_le (zig p.Hist.Scale);have q3:=enc_len_le p.Hist.Zero;have q4:=sideE_len p.Hist.Pos;rw [if_pos c4,wint_eq _ (by constructor<;>omega) (by omega),bndS,wnum_eq _ _ (by simp;omega),bndS,wside_eq _ _ rh.p.ok (by simp;omega),bndS,wside_eq _ _ rh.n.ok (by simp;omega),bndS];simp only [List.append_assoc];rw [← hv];exact hj
     ·have hv:valE p=encF p.Re:=by unfold valE;rw [if_neg c1,if_neg c5,if_neg c4]
      rw [if_neg c4,wfix_eq _ _ (by omega),bndS,← hv];exact hj
 ·obtain ⟨m,hm⟩:=fuelS 7 (by omega)
  have w1:W64 (p.Time-p.Start)=p.Time-p.Start:=W64_id (by omega) (by omega);have st:∀ (n:Nat) (i:Nat) (c:List UInt8) (z:Int),i<6→([p.Kind,p.Temp,(mono p.Mono:Int),p.Flags,p.Start,p.Time-p.Start]:List Int)[i]?=some z→0≤z→z<9223372036854775808→c.length≤5000 →
   m_point_Bytes_L1 p (mono p.Mono) j (n+1) (i:Int) ⟨c⟩=m_point_Bytes_L1 p (mono p.Mono) j n ((i+1:Nat):Int) ⟨c++enc (UInt64.ofNat z.toNat)⟩:=by
   intro n i c z hi hz z0 z1 hc;rw [m_point_Bytes_L1,if_pos (by simp;omega),w1,idx_nat,hz,bndS,toU64_nn z0 z1,wnum_eq _ _ (by omega),bndS,W64_id (by omega) (by omega)];rfl
  rw [hm,show (0:Int)=((0:Nat):Int) from rfl,show m+7=(m+6)+1 from rfl];rw [st (m+6) 0 _ p.Kind (by omega) rfl (by omega) (by omega) (by omega)];rw [st (m+5) 1 _ p.Temp (by omega) rfl (by omega) (by omega) (by simp;omega)];rw [st (m+4) 2 _ (mono p.Mono:Int) (by omega) rfl (by omega) (by omega) (by simp;omega)];rw [st (m+3) 3 _ p.Flags (by omega) rfl (by omega) (by omega) (by simp;omega)];rw [st (m+2) 4 _ p.Start (by omega) rfl (by omega) (by omega) (by simp;omega)];rw [st (m+1) 5 _ (p.Time-p.Start) (by omega) rfl (by omega) (by omega) (by simp;omega)];rw [m_point_Bytes_L1,if_neg (by simp)];simp only [headE] at hj;simp only [List.append_assoc,Int.toNat_natCast];exact hj
abbrev rdr (b:List UInt8) (pre:List UInt8):T_point_reader:=⟨⟨b,(pre.length:Nat),0⟩,0⟩
theorem rsigned_eq (pre post:List UInt8) {x:Int} (h0:-4503599627370496≤x) (h1:x≤4503599627370496) {b:List UInt8} (hb:b=pre++(enc (zig x)++post)) (hl:b.length≤1000000000):m_point_reader_signed (rdr b pre)=some (x,rdr b (pre++enc (zig x))):=by
 unfold m_point_reader_signed;have hx:okI x:=⟨by omega,by omega⟩;dsimp only;rw [rint_eq pre post hx hb rfl hl,bndS];have hz:=zig_nat hx
 have:¬((zig x).toNat:Int)>9007199254740992:=by rw [hz];split<;>omega
 simp only [jn_eq,m_pack_Reader_Err,bndS,if_true,decide_true,zig_eq hx,decide_eq_false this,Bool.false_eq_true,if_false]
theorem rsideL (n0:Nat) (off:Int) (b:List UInt8) (pre post:List UInt8) (all:List UInt64) (hn0:n0=all.length) (hb:b=pre++(encs all++post)) (hl:b.length≤1000000000) (hall:all.length≤160) (j:T_point_reader→T_api_Side→Option (T_api_Side×T_point_reader)) :
 ∀ (q p:List UInt64) (n:Nat),p++q=all→q.length<n→m_point_reader_side_L1 (n0:Int) j n (p.length:Int) (rdr b (pre++encs p)) ⟨off,p⟩=j (rdr b (pre++encs all)) ⟨off,all⟩
 | [],p,n,hp,hn=>by
  obtain ⟨n,rfl⟩:∃ m,n=m+1:=⟨n-1,by omega⟩;rw [List.append_nil] at hp;subst hp;rw [m_point_reader_side_L1,jn_eq,if_neg (by omega)];simp only [jn_eq,Bool.false_eq_true,if_false]
 | x::q,p,n,hp,hn=>by
  obtain ⟨n,rfl⟩:∃ m,n=m+1:=⟨n-1,by omega⟩;have hlen:=congrArg List.length hp;simp only [List.length_append,List.length_cons] at hlen hn;rw [m_point_reader_side_L1,jn_eq,if_pos (by omega)];simp only [jn_eq,m_pack_Reader_Err,bndS,if_true,decide_true];rw [rnum_eq (pre++encs p) (encs q++post) x (by rw [hb,← hp];simp [encs]) rfl hl,bndS];dsimp only;rw [app_some (by simp;omega),bndS,W64_id (by omega) (by omega)];have ih:=rsideL n0 off b pre post all hn0 hb hl hall j q (p++[x]) n (by simpa using hp) (by omega)
  have e:pre++encs (p++[x])=pre++encs p++enc x:=by simp [encs]
  rw [e,show ((p++[x]).length:Int)=(p.length:Int)+1 by simp] at ih;exact ih
theorem rside_eq (pre post:List UInt8) (s:T_api_Side) (hs:sideOk s) {b:List UInt8} (hb:b=pre++(sideE s++post)) (hl:b.length≤1000000000):m_point_reader_side (rdr b pre)=some (s,rdr b (pre++sideE s)):=by
 obtain ⟨h1,h2,h3,h4⟩:=hs;obtain ⟨m,hm⟩:=fuelS 200 (by omega);unfold m_point_reader_side;dsimp only
 refine jn_post (λj=>j (s.Counts.length:Int) (rdr b (pre++enc (UInt64.ofNat s.Counts.length)))=some (s,rdr b (pre++sideE s))) ?_ λj hj=>?_
 ·refine jn_post (λj=>j (rdr b (pre++enc (UInt64.ofNat s.Counts.length)++(if s.Counts=[] then [] else enc (zig s.Offset)))) ⟨s.Offset,[]⟩=some (s,rdr b (pre++sideE s))) ?_ λj hj=>?_
  ·rw [jn_eq]
   have:=rsideL s.Counts.length s.Offset b (pre++enc (UInt64.ofNat s.Counts.length)++(if s.Counts=[] then [] else enc (zig s.Offset))) post s.Counts rfl (by rw [hb,sideE];simp only [List.append_assoc]) hl h1 (λy17 y18=>some (y18,y17)) s.Counts [] fuel (by simp) (by omega);rw [show encs []=[] from rfl,List.append_nil] at this;refine this.trans ?_;unfold sideE;simp only [List.append_assoc]
  ·by_cases hn:s.Counts=[]
   ·rw [if_neg (by simp [hn])]
    rw [if_pos hn,List.append_nil,h4 hn] at hj;exact hj
   ·have:0<s.Counts.length:=List.length_pos_iff.2 hn
    rw [if_pos (by omega)];rw [rsigned_eq (x:=s.Offset) (pre++enc (UInt64.ofNat s.Counts.length)) (encs s.Counts++post) (by omega) (by omega) (by rw [hb,sideE,if_neg hn];simp only [List.append_assoc]) hl,bndS];rw [if_neg hn] at hj;exact hj
 ·rw [if_pos rfl]
  have:=rcount_eq pre ((if s.Counts=[] then [] else enc (zig s.Offset))++encs s.Counts++post) s.Counts.length 160 (b:=b) (by rw [hb,sideE];simp only [List.append_assoc]) rfl hl h1 (by omega);rw [show ((160:Nat):Int)=160 from rfl] at this;rw [this,bndS];exact hj
def back (p:Pt):Pt:={ p with Attrs:=srt p.Attrs }
theorem value_eq (pre:List UInt8) (p q:Pt) (hp:PV p) (hi:okI p.Int_) {b:List UInt8} (hb:b=pre++valE p) (hl:b.length≤1000000000) (hk:q.Kind=p.Kind) (h0:q.Int_=0∧q.Re=0∧q.Im=0∧q.Hist=hZ) :
 m_point_reader_value (rdr b pre) q=some (rdr b b,{ q with Int_:=p.Int_,Re:=p.Re,Im:=p.Im,Hist:=p.Hist }):=by
 obtain ⟨k1,k2,t1,t2,f1,f2,s1,s2,s3⟩:=hp.nums;obtain ⟨q1,q2,q3,q4⟩:=h0;have o1:=hp.oi;have o2:=hp.re;have o3:=hp.im;have o4:=hp.oh
 have hbl:b.length=(pre++valE p).length:=by rw [hb]
 unfold m_point_reader_value;dsimp only;rw [hk]
 by_cases c1:p.Kind=1
 ·have hv:valE p=enc (zig p.Int_):=by unfold valE;rw [if_pos c1]
  rw [hv] at hb;rw [if_pos c1,rint_eq pre [] hi (by simpa using hb) rfl hl,bndS];rw [q2,q3,q4,o2 (by omega),o3 (by omega),o4 (by omega),hb]
 ·rw [if_neg c1,jn_eq]
  by_cases c23:p.Kind=2∨p.Kind=3
  ·have hv:valE p=encF p.Re:=by unfold valE;rw [if_neg c1,if_neg (by omega),if_neg (by omega)]
   rw [hv] at hb;rw [rfix_eq pre [] p.Re (by simpa using hb) rfl hl];simp only [bndS];rw [← hb]
   rcases c23 with c|c
   ·rw [if_pos c,decide_eq_true c,if_pos rfl,q1,q3,q4,o1 (by omega),o3 (by omega),o4 (by omega)]
   ·rw [if_neg (by omega),decide_eq_true c,if_pos rfl,q1,q3,q4,o1 (by omega),o3 (by omega),o4 (by omega)]
  ·rw [if_neg (by omega),decide_eq_false (by omega)]
   simp only [Bool.false_eq_true,if_false]
   by_cases c5:p.Kind=5
   ·have hv:valE p=encF p.Re++encF p.Im:=by unfold valE;rw [if_neg c1,if_pos c5]
    rw [hv] at hb;rw [if_pos c5,rfix_eq pre (encF p.Im) p.Re hb rfl hl,bndS];dsimp only;rw [rfix_eq (pre++encF p.Re) [] p.Im (by rw [hb];simp) rfl hl,bndS];rw [q1,q4,o1 (by omega),o4 (by omega),hb];simp only [List.append_assoc]
   ·have c4:p.Kind=4:=by omega
    have hv:valE p=enc (zig p.Hist.Scale)++(enc p.Hist.Zero++(sideE p.Hist.Pos++sideE p.Hist.Neg)):=by unfold valE;rw [if_neg c1,if_neg c5,if_pos c4]
    rw [hv] at hb;have rh:=hp.h c4;have a1:=rh.lo;have a2:=rh.hi;have a3:=rh.p.ok;have a4:=rh.n.ok;rw [if_neg c5,if_pos c4,rsigned_eq (x:=p.Hist.Scale) pre (enc p.Hist.Zero++(sideE p.Hist.Pos++sideE p.Hist.Neg)) (by omega) (by omega) hb hl,bndS,jn_eq];dsimp only;rw [if_pos rfl,rnum_eq (pre++enc (zig p.Hist.Scale)) (sideE p.Hist.Pos++sideE p.Hist.Neg) p.Hist.Zero (by rw [hb];simp) rfl hl,bndS];dsimp only;rw [rside_eq (pre++enc (zig p.Hist.Scale)++enc p.Hist.Zero) (sideE p.Hist.Neg) p.Hist.Pos a3 (by rw [hb];simp) hl,bndS];dsimp only;rw [rside_eq (pre++enc (zig p.Hist.Scale)++enc p.Hist.Zero++sideE p.Hist.Pos) [] p.Hist.Neg a4 (by rw [hb];simp) hl,bndS];rw [q1,q2,q3,o1 (by omega),o2 (by omega),o3 (by omega),hb];simp only [List.append_assoc]
theorem check_srt {name:Txt} {l:List Pr} (h:check name l=0):check name (srt l)=0:=by
 obtain ⟨h1,h2,h3⟩:=check_ok h;unfold check;rw [if_pos h1,if_neg (by rw [srt_len];omega)];exact chk_srt h3
theorem PV.back {p:Pt} (v:PV p):PV (back p):=⟨check_srt v.c,v.k,v.ms,v.t0,v.t1,v.t2,v.t3,v.oi,v.re,v.im,v.oh,v.f0,v.f1,v.ff,v.mi,v.mr,v.h⟩
theorem ofNat_int {x:Int} (h:0≤x):((x.toNat:Nat):Int)=x:=by omega
theorem read_eq (p:Pt) (hp:PV p) (hi:okI p.Int_):m_point_Read (bytesE p)=some (back p,0):=by
 obtain ⟨h1,h2⟩:=hp.hl;obtain ⟨k1,k2,t1,t2,f1,f2,s1,s2,s3⟩:=hp.nums;have htl:=text_len hp.c
 have hm1:mono p.Mono≤1:=by unfold mono;split<;>omega
 generalize hT:p.Name++texts (srt p.Attrs)=T at htl
 have g0:(encT T).length≤1000:=by have:=enc_len_le (UInt64.ofNat T.length);unfold encT;simp only [List.length_append];omega
 have g1:=enc_len_le (UInt64.ofNat p.Kind.toNat);have g2:=enc_len_le (UInt64.ofNat p.Temp.toNat);have g3:=enc_len_le (UInt64.ofNat (mono p.Mono));have g4:=enc_len_le (UInt64.ofNat p.Flags.toNat);have g5:=enc_len_le (UInt64.ofNat p.Start.toNat);have g6:=enc_len_le (UInt64.ofNat (p.Time-p.Start).toNat);have q1:=enc_len_le (zig p.Int_);have q2:=enc_len_le (zig p.Hist.Scale);have q3:=enc_len_le p.Hist.Zero;have q4:=sideE_len p.Hist.Pos;have q5:=sideE_len p.Hist.Neg
 have hv:(valE p).length≤10000:=by
  unfold valE
  split
  ·omega
  ·split
   ·simp [encF_len]
   ·split
    ·simp only [List.length_append];omega
    ·simp [encF_len]
 generalize hb:bytesE p=b
 have hb0:b=encT T++(enc (UInt64.ofNat p.Kind.toNat)++(enc (UInt64.ofNat p.Temp.toNat)++(enc (UInt64.ofNat (mono p.Mono))++(enc (UInt64.ofNat p.Flags.toNat)++(enc (UInt64.ofNat p.Start.toNat)++(enc (UInt64.ofNat (p.Time-p.Start).toNat)++valE p)))))):=by
  rw [← hb,bytesE,headE,hT];simp only [List.append_assoc]
 have hbl:b.length≤1000000000:=by rw [hb0];simp only [List.length_append];omega
 unfold m_point_Read;rw [new_eq _ hbl,bndS];have r0:=rtext_eq [] T _ 400 (b:=b) (at_:=0) (by rw [List.nil_append];exact hb0) rfl hbl (by omega) (by omega);rw [List.nil_append] at r0;rw [show ((400:Nat):Int)=400 from rfl] at r0;rw [r0,bndS]
 have cnt:∀ (pre post:List UInt8) (x:Int),0≤x→x≤4503599627370496→b=pre++(enc (UInt64.ofNat x.toNat)++post)→m_pack_Reader_Count ⟨b,(pre.length:Nat),0⟩ 9007199254740992=some (x,⟨b,((pre++enc (UInt64.ofNat x.toNat)).length:Nat),0⟩):=by
  intro pre post x x0 x1 hx;have:=rcount_eq pre post x.toNat 9007199254740992 (b:=b) hx rfl hbl (by omega) (by omega);rw [ofNat_int x0] at this;exact this
 dsimp only;rw [cnt (encT T) _ p.Kind (by omega) (by omega) (by rw [hb0]),bndS];dsimp only;rw [cnt (encT T++enc (UInt64.ofNat p.Kind.toNat)) _ p.Temp (by omega) (by omega) (by rw [hb0];simp only [List.append_assoc];rfl),bndS];dsimp only;rw [cnt (encT T++enc (UInt64.ofNat p.Kind.toNat)++enc (UInt64.ofNat p.Temp.toNat)) _ (mono p.Mono:Int) (by omega) (by omega) (by rw [hb0];simp only [List.append_assoc,Int.toNat_natCast];rfl),bndS];dsimp only;rw [Int.toNat_natCast];rw [cnt (encT T++enc (UInt64.ofNat p.Kind.toNat)++enc (UInt64.ofNat p.Temp.toNat)++enc (UInt64.ofNat (mono p.Mono))) _ p.Flags (by omega) (by omega) (by rw [hb0];simp only [List.append_assoc];rfl),bndS];dsimp only;rw [cnt (encT T++enc (UInt64.ofNat p.Kind.toNat)++enc (UInt64.ofNat p.Temp.toNat)++enc (UInt64.ofNat (mono p.Mono))++enc (UInt64.ofNat p.Flags.toNat)) _ p.Start (by omega) (by omega) (by rw [hb0];simp only [List.append_assoc];rfl),bndS,jn_eq];dsimp only;rw [cnt (encT T++enc (UInt64.ofNat p.Kind.toNat)++enc (UInt64.ofNat p.Temp.toNat)++enc (UInt64.ofNat (mono p.Mono))++enc (UInt64.ofNat p.Flags.toNat)++enc (UInt64.ofNat p.Start.toNat)) (valE p) (p.Time-p.Start) (by omega) (by omega) (by rw [hb0];simp only [List.append_assoc]),bndS];dsimp only;have hv:=value_eq (headE p) p ⟨[],[],p.Kind,p.Temp,false,p.Start,W64 (p.Start+(p.Time-p.Start)),0,0,0,⟨0,0,⟨0,[]⟩,⟨0,[]⟩⟩,p.Flags⟩ hp hi (b:=b) (by rw [← hb];rfl) hbl rfl ⟨rfl,rfl,rfl,rfl⟩
 have hd:headE p=encT T++enc (UInt64.ofNat p.Kind.toNat)++enc (UInt64.ofNat p.Temp.toNat)++enc (UInt64.ofNat (mono p.Mono))++enc (UInt64.ofNat p.Flags.toNat)++enc (UInt64.ofNat p.Start.toNat)++enc (UInt64.ofNat (p.Time-p.Start).toNat):=by unfold headE;rw [hT];simp only [List.append_assoc]
 rw [hd] at hv;rw [hv,bndS,jn_eq];dsimp only;rw [if_pos rfl,done_eq _ hbl,bndS]
 have hpar:m_label_Parse T=some (p.Name,srt p.Attrs,0,0):=by rw [← hT,parse_eq _ (by rw [hT];omega),parse_text hp.c]
 simp only [jn_eq,if_true,hpar,bndS]
 have hmono:decide ((mono p.Mono:Int)=1)=p.Mono:=by unfold mono;cases p.Mono<;>rfl
 rw [if_neg (by omega),hmono,W64_id (by omega) (by omega),show p.Start+(p.Time-p.Start)=p.Time by omega];have hbk:=PCheck_eq (back p) (by show p.Hist.Pos.Counts.length≤_;omega) (by show p.Hist.Neg.Counts.length≤_;omega);rw [hp.back.to] at hbk;unfold back at hbk;simp only [if_true,hbk,bndS]
 rfl
end Go.Proofs.YtaikmpmokihciaaGreat
set_option maxRecDepth 20000
set_option linter.unusedVariables false
set_option linter.unusedSimpArgs false
namespace Go.Proofs.YtaikmpmokihciaaGreat
open Go Go.RowKit Go.Wk
def asP (p:Pt) (s:St):Pt:={ p with Start:=s.Start,Time:=s.Time,Int_:=s.Int_,Re:=s.Re,Im:=s.Im,Hist:=s.Hist,Flags:=0 }
structure SV (b:Int) (p:Pt) (s:St):Prop where
 v:PV (asP p s)
 so:s.Some=true
 lp:(s.Hist.Pos.Counts.length:Int)≤b
 ln:(s.Hist.Neg.Counts.length:Int)≤b
 i:okI s.Int_
theorem SV.fresh {p:Pt} {hh:T_api_Hist} {b:Int} (v:PV { p with Hist:=hh }) (lp:(hh.Pos.Counts.length:Int)≤b) (ln:(hh.Neg.Counts.length:Int)≤b) (hi:okI p.Int_):SV b p ⟨true,p.Start,p.Time,p.Int_,p.Re,p.Im,hh⟩:=
 ⟨⟨v.c,v.k,v.ms,v.t0,v.t1,v.t2,v.t3,v.oi,v.re,v.im,v.oh,Int.le_refl 0,z31,v.ff,v.mi,v.mr,v.h⟩,rfl,lp,ln,hi⟩
theorem dNext_sv {s:St} {p:Pt} {b:Int} (hb:0≤b) (hs:IS p.Mono s) (hsv:s.Some=true→SV b p s) (hp:Few p) (hv:PV p) (hi:okI p.Int_) (hT:p.Temp=1) (hF:p.Flags=0) :
 Tot (λr=>r.2.2=0→SV b p r.1) (m_todelta_Next s p b):=by
 have h3:p.Kind≠3:=by have:=hv.k;omega
 unfold m_todelta_Next;rw [PCheck_eq p hp.p hp.n,bndS,hv.to]
 refine Tot.jn2 (R:=λe q=>e=0→FV p b q) (λe q hq=>?_) λj hj=>?_
 ·refine Tot.jn (R:=λe2=>e2=0→FV p b q) (λe2 he2=>?_) λj hj=>?_
  ·refine Tot.ite (λh=>.some λh2=>absurd h2 h) λh=>?_
   obtain ⟨v,w,⟨hh,rfl⟩,lp,ln⟩:=he2 (Decidable.not_not.1 h);rw [clone_pt _ w,bndS]
   refine Tot.jn (R:=λy:St=>y=⟨true,p.Start,p.Time,p.Int_,p.Re,p.Im,hh⟩) (λy hy=>?_) λj hj=>?_
   ·subst hy
    have fr:SV b p ⟨true,p.Start,p.Time,p.Int_,p.Re,p.Im,hh⟩:=.fresh v lp ln hi;obtain ⟨f,hf1,hf2⟩:=begins_ok s { p with Hist:=hh };obtain ⟨f',hf1',hf3⟩:=begins_zero (s:=s) (p:={ p with Hist:=hh });rw [hf1] at hf1';obtain rfl:=Option.some.inj hf1';rw [hf1,bndS]
    refine Tot.ite (λ_=>.some λ_=>fr) λh0=>?_
    have hsome:=hf3 (Decidable.not_not.1 h0)
    refine (less_ok hb v w hi.2 lp ln hs h3).bind λd hd=>?_
    refine Tot.jn2 (R:=λy q=>SV b p y) (λy q h=>.some λ_=>h) λj hj=>?_
    refine Tot.ite (λhw0=>?_) λhw0=>hj _ _ fr
    refine Tot.ite (λh4=>?_) λh4=>hj _ _ fr
    refine (LevV_tot w.h hs.l).bind λl hl=>hj _ _ ?_
    have e0:=hl.z (v.h h4) ((hsv hsome).v.h h4);have g1:=hl.p e0;have g2:=hl.n e0;have v':=fr.v;exact ⟨⟨v'.c,v'.k,v'.ms,v'.t0,v'.t1,v'.t2,v'.t3,v'.oi,v'.re,v'.im,λk=>absurd h4 k,v'.f0,v'.f1,v'.ff,v'.mi,v'.mr,λ_=>hl.a e0⟩,rfl,by dsimp only at g1 lp ⊢;omega,by dsimp only at g2 ln ⊢;omega,hi⟩
   ·rw [hclone_eq _ w.p w.n,bndS]
    exact hj _ rfl
  ·refine Tot.ite (λh0=>?_) λh0=>hj _ λh=>absurd h h0
   exact (dcheck_ok s q).bind λe2 he2=>hj _ λ_=>hq h0
 ·rw [if_neg (by simp),if_neg (by omega),if_neg (by omega)]
  refine Tot.ite (λh4=>?_) λh4=>hj _ _ λ_=>.same hb hv hp h4
  exact (Fit_ok hp.h b).bind λr hr=>hj _ _ λh0=>.fit hv hp h4 hr h0
theorem naddp_ok2 (a b c d:UInt64):Tot (λz=>(finB a=true→finB c=true→ltZ a=false→ltZ c=false→ltZ z.1=false)∧(b=0→d=0→z.2=0)) (m_num_AddPhasor a b c d):=by
 unfold m_num_AddPhasor m_num_phasor m_num_of;simp only [bndS];unfold m_num_parts
 have h0:m_num_bits (fadd 0 0)=some 0:=by decide +kernel
 refine Tot.bind (P:=λp:UInt64×UInt64=>(finB a=true→finB c=true→ltZ a=false→ltZ c=false→ltZ p.1=false)∧(b=0→d=0→p.2=0)) ((bits_nn _).bind λy hy=>?_) λp hp=>.some hp
 by_cases hz:b=0∧d=0
 ·obtain ⟨rfl,rfl⟩:=hz
  dsimp only;rw [h0,bndS];exact .some ⟨λh1 h2 h3 h4=>hy (fadd_nn h1 h2 h3 h4),λ_ _=>rfl⟩
 ·exact (bits_nn _).bind λw _=>.some ⟨λh1 h2 h3 h4=>hy (fadd_nn h1 h2 h3 h4),λe1 e2=>absurd ⟨e1,e2⟩ hz⟩
theorem cNext_sv {s:St} {p:Pt} {b:Int} (hb:0≤b) (hs:IS p.Mono s) (hsv:s.Some=true→SV b p s) (hp:Few p) (hv:PV p) (hi:okI p.Int_) (hsi:s.Int_≤9223372036854775807) (hT:p.Temp=2) (hF:p.Flags=0) :
 Tot (λr=>r.2.2=0→SV b p r.1) (m_tocum_Next s p b):=by
 have h3:p.Kind≠3:=by have:=hv.k;omega
 unfold m_tocum_Next;rw [PCheck_eq p hp.p hp.n,bndS,hv.to]
 refine Tot.jn2 (R:=λe q=>e=0→FV p b q) (λe q hq=>?_) λj hj=>?_
 ·refine Tot.jn (R:=λe2=>e2=0→FV p b q∧(s.Some=true→s.Time<q.Time)) (λe2 he2=>?_) λj hj=>?_
  ·refine Tot.ite (λh=>.some λh2=>absurd h2 h) λh=>?_
   obtain ⟨fv,hlt⟩:=he2 (Decidable.not_not.1 h);obtain ⟨v,w,⟨hh,rfl⟩,lp,ln⟩:=fv;have fr:SV b p ⟨true,p.Start,p.Time,p.Int_,p.Re,p.Im,hh⟩:=.fresh v lp ln hi;have fi:=IS.fresh v w
   refine Tot.jn2 (R:=λf y=>0≤f∧f≤31∧LH y.Hist∧(f=0→SV b p y∧IS p.Mono y∧y.Start<p.Time)) (λf y hy=>?_) λj3 hj3=>?_
   ·obtain ⟨f0,f1,fl,fz⟩:=hy
    refine Tot.jn (R:=λy=>SV b p y∧IS p.Mono y∧y.Start<p.Time) (λy hy=>?_) λj hj=>?_
    ·obtain ⟨y1,y2,y3⟩:=hy
     rw [hclone_eq y.Hist y2.l.p y2.l.n,bndS]
     refine (answer_ok (s:=⟨y.Some,y.Start,y.Time,y.Int_,y.Re,y.Im,y.Hist⟩) hb v w h3 ⟨y2.l,y2.s0,y2.s1,y2.i,y2.r⟩ f0 f1 y3 (λh4=>⟨y1.v.h h4,y1.lp,y1.ln⟩)).bind λr hr=>.some λ_=>?_
     exact ⟨y1.v,y1.so,y1.lp,y1.ln,y1.i⟩
    ·exact Tot.ite (λ_=>hj _ ⟨fr,fi,v.t3 h3⟩) λh0=>hj _ (fz (Decidable.not_not.1 h0))
   ·refine Tot.ite (λ_=>hj3 _ _ ⟨by decide,by decide,hs.l,λh=>by simp at h⟩) λhso=>Tot.ite (λ_=>hj3 _ _ ⟨by decide,by decide,hs.l,λh=>by simp at h⟩) λ_=>?_
    have so:s.Some=true:=by simpa using hso
    have ht:=hlt so;have sv:=hsv so;have pv:=sv.v;have st3:s.Start<s.Time:=pv.t3 h3;have base:∀ (i:Int) (re im:UInt64) (h:T_api_Hist),(p.Mono=true→0≤i)→(p.Mono=true→finB re=true∧ltZ re=false∧finB im=true)→LH h→(p.Kind=4→RH h∧(h.Pos.Counts.length:Int)≤b∧(h.Neg.Counts.length:Int)≤b)→(p.Kind≠1→i=0)→(¬(p.Kind=2∨p.Kind=3∨p.Kind=5)→re=0)→(p.Kind≠5→im=0)→(p.Kind≠4→h=hZ)→okI i →
     SV b p ⟨true,s.Start,p.Time,i,re,im,h⟩∧IS p.Mono ⟨true,s.Start,p.Time,i,re,im,h⟩∧s.Start<p.Time:=λi re im h a1 a2 a3 a4 a5 a6 a7 a8 a9=>by
     have s01:=hs.s0
     have lens:(h.Pos.Counts.length:Int)≤b∧(h.Neg.Counts.length:Int)≤b:=by
      by_cases h4:p.Kind=4
      ·exact (a4 h4).2
      ·rw [a8 h4];exact ⟨hb,hb⟩
     exact ⟨⟨⟨v.c,v.k,v.ms,s01,v.t1,λe=>absurd e h3,λ_=>by show s.Start<p.Time;dsimp only at ht;omega,a5,a6,a7,a8,Int.le_refl 0,z31,λm _=>(a2 m).1,λm=>a1 m,λm=>(a2 m).2.1,λk=>(a4 k).1⟩,rfl,lens.1,lens.2,a9⟩,⟨a3,s01,by show s.Start≤p.Time;dsimp only at ht;omega,a1,a2⟩,by dsimp only at ht;omega⟩
    refine Tot.jn2 (R:=λf y=>LH y.Hist∧(f=true→SV b p y∧IS p.Mono y∧y.Start<p.Time)) (λf y hy=>Tot.ite (λ_=>hj3 _ _ ⟨by decide,by decide,hy.1,λh=>by simp at h⟩) λh=>hj3 _ _ ⟨by decide,by decide,hy.1,λ_=>hy.2 (by simpa using h)⟩) λj5 hj5=>?_
    refine Tot.jn (R:=λy=>SV b p y∧IS p.Mono y∧y.Start<p.Time) (λy hy=>hj5 _ _ ⟨hy.2.1.l,λ_=>hy⟩) λj6 hj6=>?_
    refine Tot.ite (λk1=>?_) λk1=>Tot.ite (λk4=>?_) λk4=>?_
    ·refine Tot.jn (R:=λy=>y=false→decide (W64 (s.Int_+p.Int_)>s.Int_)=decide (p.Int_>0)∨p.Int_=0) (λy hy=>Tot.ite (λ_=>hj5 _ _ ⟨hs.l,λh=>by simp at h⟩) λc=>hj6 _ (base _ _ _ _ (λm=>?_) (λm=>hs.r m) hs.l (λh=>by have k1':p.Kind=1:=k1;omega) (λh=>absurd k1 h) (λh=>pv.re h) (λh=>pv.im h) (λh=>pv.oh h) ?_)) λj hj=>Tot.ite (λc=>hj _ λh=>.inr ?_) λc=>hj _ λ_=>.inl (Decidable.not_not.1 c)
     ·have a1:=hs.i m;have a2:=v.mi m
      dsimp only at a2
      rcases hy (by simpa using c) with h|h
      ·rw [decide_eq_decide] at h
       by_cases hp0:p.Int_>0
       ·have:=h.2 hp0
        dsimp only;omega
       ·have:p.Int_=0:=by omega
        dsimp only;rw [this,W64_id (by omega) (by omega)];omega
      ·dsimp only
       rw [h,W64_id (by omega) (by omega)];omega
     ·show okI (W64 (s.Int_+p.Int_))
      unfold W64 IntKind.wrap IntKind.signed IntKind.bits okI;simp
      omega
     ·simpa using h
    ·refine Tot.jn2 (R:=λy f=>LH y∧(f=true→RH y∧(y.Pos.Counts.length:Int)≤b∧(y.Neg.Counts.length:Int)≤b)) (λy f hy=>Tot.ite (λ_=>hj5 _ _ ⟨hs.l,λh=>by simp at h⟩) λc=>hj6 _ (base _ _ _ _ (λm=>hs.i m) (λm=>hs.r m) hy.1 (λ_=>hy.2 (by simpa using c)) (λh=>pv.oi h) (λh=>pv.re h) (λh=>pv.im h) (λh=>absurd k4 h) sv.i)) λj hj=>?_
     exact (Tog_ok hs.l w.h b).bind λr hr=>hj _ _ ⟨hr.l,λh=>⟨hr.v h,hr.p h,hr.n h⟩⟩
    ·have k25:p.Kind=2∨p.Kind=5:=by have:=hv.k;dsimp only at k1 k4;omega
     refine (naddp_ok2 _ _ _ _).bind λz hz=>Tot.jn (R:=λy=>y=false→p.Mono=true→finB z.1=true∧finB z.2=true) (λy hy=>Tot.ite (λ_=>hj5 _ _ ⟨hs.l,λh=>by simp at h⟩) λc=>hj6 _ (base _ _ _ _ (λm=>hs.i m) (λm=>?_) hs.l (λh=>absurd h k4) (λh=>pv.oi h) (λh=>by omega) (λh=>?_) (λh=>pv.oh h) sv.i)) λj hj=>?_
     ·obtain ⟨a1,a2⟩:=hy (by simpa using c) m
      obtain ⟨f1,f2,f3⟩:=hs.r m;obtain ⟨g1,g2,g3⟩:=v.fin m;exact ⟨a1,hz.1 f1 g1 f2 g2,a2⟩
     ·exact hz.2 (pv.im h) (v.im h)
     ·rw [cfin_eq (by simp),bndS]
      refine Tot.ite (λc=>?_) λc=>hj _ λ_ _=>?_
      ·rw [cfin_eq (by simp),bndS]
       refine hj _ λh m=>?_
       obtain ⟨f1,f2,f3⟩:=hs.r m;obtain ⟨g1,g2,g3⟩:=v.fin m;dsimp only at g1 g3;simp [f1,f3,g1,g3] at h
      ·simpa using c
  ·refine Tot.ite (λh0=>?_) λh0=>hj _ λh=>absurd h h0
   exact (ccheck_ok s q).bind λe2 he2=>hj _ λh=>⟨hq h0,he2 h⟩
 ·rw [if_neg (by simp),if_neg (by omega),if_neg (by omega)]
  refine Tot.ite (λh4=>?_) λh4=>hj _ _ λ_=>.same hb hv hp h4
  exact (Fit_ok hp.h b).bind λr hr=>hj _ _ λh0=>.fit hv hp h4 hr h0
theorem pass_sv {s:St} {p:Pt} {b:Int} (hp:Few p):Tot (λr=>r.2.2=0→r.1=⟨true,p.Start,p.Time,0,0,0,hZ⟩) (m_convert_pass s p b):=by
 unfold m_convert_pass;rw [clone_pt p hp,bndS]
 refine Tot.jn (R:=λ_=>True) (λy hy=>.some λ_=>rfl) λj hj=>Tot.ite (λ_=>hj _ trivial) λ_=>Tot.ite (λ_=>.some λh=>by simp at h) λ_=>Tot.ite (λ_=>.some λh=>by simp at h) λ_=>Tot.ite (λ_=>hj _ trivial) λ_=>hj _ trivial
end Go.Proofs.YtaikmpmokihciaaGreat
set_option maxRecDepth 20000
set_option linter.unusedVariables false
set_option linter.unusedSimpArgs false
namespace Go.Proofs.YtaikmpmokihciaaGreat
open Go Go.RowKit Go.Wk
theorem fc_sv {cfg:T_api_Config} (hg:GoodC cfg) {p:Pt} {s:St} (hs:IS p.Mono s) (hsv:s.Some=true→SV cfg.Buckets p s) (hsi:s.Int_≤9223372036854775807) (hp:Few p) (hv:PV p) (hi:okI p.Int_) (hF:p.Flags=0) :
 Tot (λr=>r.2.2=0→SV cfg.Buckets p r.1∧((p.Temp=0∨cfg.Out=0∨p.Temp=cfg.Out)→r.1.Int_=0∧r.1.Re=0∧r.1.Im=0∧r.1.Hist=hZ)) (m_fc_1 (rdN cfg.Out p.Temp) s p cfg.Buckets):=by
 have hb:=hg.b0;have o0:=hg.o0;have o1:=hg.o1
 by_cases c1:p.Temp=1∧cfg.Out=2
 ·unfold rdN m_fc_1
  rw [if_pos c1,if_pos rfl]
  exact (dNext_sv (by omega) hs hsv hp hv hi c1.1 hF).mono λr hr h0=>⟨hr h0,λh=>by omega⟩
 ·by_cases c2:p.Temp=2∧cfg.Out=1
  ·unfold rdN m_fc_1
   rw [if_neg c1,if_pos c2,if_neg (by omega),if_pos rfl]
   exact (cNext_sv (by omega) hs hsv hp hv hi hsi c2.1 hF).mono λr hr h0=>⟨hr h0,λh=>by omega⟩
  ·unfold rdN m_fc_1
   rw [if_neg c1,if_neg c2,if_neg (by omega),if_neg (by omega),if_pos rfl]
   refine (pass_sv hp).mono λr hr h0=>?_
   rw [hr h0];have z0:finB 0=true∧ltZ 0=false:=⟨by decide,by decide⟩;exact ⟨⟨⟨hv.c,hv.k,hv.ms,hv.t0,hv.t1,hv.t2,hv.t3,λ_=>rfl,λ_=>rfl,λ_=>rfl,λ_=>rfl,Int.le_refl 0,z31,λ_ _=>z0.1,λ_=>Int.le_refl 0,λ_=>z0.2,λ_=>.zero⟩,rfl,by show (0:Int)≤_;omega,by show (0:Int)≤_;omega,⟨by show (-9223372036854775808:Int)≤0;decide,by show (0:Int)≤9223372036854775807;decide⟩⟩,λ_=>⟨rfl,rfl,rfl,rfl⟩⟩
def ptK (x:T_convert_kept):Pt:={ Name:=x.series.Name,Attrs:=x.series.Attrs,Kind:=x.series.Kind,Temp:=x.series.Temp,Mono:=x.series.Mono,Start:=x.State.Start,Time:=x.State.Time,Int_:=x.State.Int_,Re:=x.State.Re,Im:=x.State.Im,Hist:=x.State.Hist,Flags:=x.series.Flags }
def bareP (p:Pt):Pt:={ Name:=p.Name,Attrs:=p.Attrs,Kind:=p.Kind,Temp:=p.Temp,Mono:=p.Mono,Start:=0,Time:=0,Int_:=0,Re:=0,Im:=0,Hist:=hZ,Flags:=0 }
theorem bare_eqP {p:Pt} (hp:Few p):m_convert_bare p=some (bareP p):=by
 unfold m_convert_bare;rw [clone_pt p hp,bndS]
 rfl
structure KE (cfg:T_api_Config) (K:List UInt8) (x:T_convert_kept):Prop where
 v:PV (ptK x)
 so:x.State.Some=true
 k:keyE (ptK x)=K
 lp:(x.State.Hist.Pos.Counts.length:Int)≤cfg.Buckets
 ln:(x.State.Hist.Neg.Counts.length:Int)≤cfg.Buckets
 i:okI x.State.Int_
 z:(x.series.Temp=0∨cfg.Out=0∨x.series.Temp=cfg.Out)→x.State.Int_=0∧x.State.Re=0∧x.State.Im=0∧x.State.Hist=hZ
 sb:x.series=bareP (ptK x)
structure InvG (cfg:T_api_Config) (c:Cv):Prop where
 cf:c.cfg=cfg
 mo:c.states.most=cfg.Series
 le:(c.states.m.length:Int)≤cfg.Series
 nd:(c.states.m.map (·.1)).Nodup
 ke:∀ e∈c.states.m,KE cfg e.1 e.2.v
theorem KE.is {cfg:T_api_Config} {K:List UInt8} {x:T_convert_kept} (h:KE cfg K x) {p:Pt} (v:PV p) (hk:keyE p=K):IS p.Mono x.State∧SV cfg.Buckets p x.State:=by
 have hh:=h.v;obtain ⟨e1,e2,e3,e4,e5⟩:=(key_inj v.r hh.r).1 (hk.trans h.k.symm);have hl:=hh.hl;have f:=hh.fin;rw [← e4] at f;refine ⟨⟨⟨by show x.State.Hist.Pos.Counts.length≤_;have:=hl.1;dsimp only [ptK] at this;omega,by show x.State.Hist.Neg.Counts.length≤_;have:=hl.2;dsimp only [ptK] at this;omega⟩,hh.t0,hh.times,λm=>hh.mi (e4▸m),λm=>f m⟩,⟨?_,h.so,h.lp,h.ln,h.i⟩⟩;have q2:p.Kind=x.series.Kind:=e2;have q3:p.Temp=x.series.Temp:=e3;have q4:p.Mono=x.series.Mono:=e4;exact ⟨v.c,v.k,v.ms,hh.t0,hh.t1,λk=>hh.t2 (q2.symm.trans k),λk=>hh.t3 λk2=>k (q2.trans k2),λk=>hh.oi λk2=>k (q2.trans k2),λk=>hh.re λk2=>k (by show p.Kind=2∨p.Kind=3∨p.Kind=5;rw [q2];exact k2),λk=>hh.im λk2=>k (q2.trans k2),λk=>hh.oh λk2=>k (q2.trans k2),Int.le_refl 0,z31,λm k=>hh.ff (q4.symm.trans m) (q2.symm.trans k),λm=>hh.mi (q4.symm.trans m),λm=>hh.mr (q4.symm.trans m),λk=>hh.h (q2.symm.trans k)⟩
def tailF (cfg:T_api_Config) (c:Cv) (p:Pt):Option (Pt×Int×Cv):=
 if (lookP (keyE p) c.states.m).isSome=false∧(c.states.m.length:Int)=cfg.Series then some (ptZ,6,c)
 else (m_fc_1 (rdN cfg.Out p.Temp) ((stO c (keyE p)).getD st0) p cfg.Buckets).bind λt=>if t.2.2≠0 then some (ptZ,t.2.2,c)
  else some (t.2.1,0,⟨cfg,⟨cfg.Series,W64 (c.states.clock+1),putP (keyE p) ⟨⟨t.1,bareP p⟩,W64 (c.states.clock+1)⟩ c.states.m⟩⟩)
theorem tail_form {cfg:T_api_Config} (hg:GoodC cfg) {p:Pt} (hp:Few p) (c:Cv) (hc:InvG cfg c):tailT c (keyE p) 0 p=tailF cfg c p:=by
 obtain ⟨r,hr,r1,r2⟩:=get_eq c (keyE p);have s0:=hg.s0;have s1:=hg.s1;have hle:=hc.le
 have r2':r.2=(lookP (keyE p) c.states.m).isSome:=by rw [r2];unfold stO;rw [Option.isSome_map]
 have room:m_table_Table_convert_kept_Room c.states=some (cfg.Series-(c.states.m.length:Int)):=by
  unfold m_table_Table_convert_kept_Room;rw [hc.mo,W64_id (by omega) (by omega)]
 unfold tailT tailF;rw [if_neg (by simp),hr,bndS,jn_eq];have body:∀ y:Bool,y=false→((lookP (keyE p) c.states.m).isSome=false→(c.states.m.length:Int)≠cfg.Series) →
  (if y=true then some (ptZ,6,c) else
  jn (λ(y85:Int) (y86:St) (y88:Pt)=>if y85≠0 then some (ptZ,y85,c) else (m_convert_bare p).bind λp124=>(m_table_Table_convert_kept_Put c.states (keyE p) { State:=y86,series:=p124 }).bind λp129=>some (y88,0,{ cfg:=c.cfg,states:=p129.2 })) λj4=>
   (m_convert_Converter_road_s2 c.cfg.Out c.cfg.Series c.cfg.Buckets c.cfg.Points c.cfg.Bytes c.cfg.Disk c.cfg.Window p).bind λf=>(m_fc_1 f r.1.State p c.cfg.Buckets).bind λr=>j4 r.2.2 r.1 r.2.1) =
  (m_fc_1 (rdN cfg.Out p.Temp) ((stO c (keyE p)).getD st0) p cfg.Buckets).bind λt=>if t.2.2≠0 then some (ptZ,t.2.2,c)
  else some (t.2.1,0,⟨cfg,⟨cfg.Series,W64 (c.states.clock+1),putP (keyE p) ⟨⟨t.1,bareP p⟩,W64 (c.states.clock+1)⟩ c.states.m⟩⟩):=by
  intro y hy hn;rw [if_neg (by simp [hy]),jn_eq,road_eq,bndS,r1,hc.cf]
  congr 1
  funext t
  dsimp only
  split
  ·rfl
  ·rw [bare_eqP hp,bndS]
   have hput:m_table_Table_convert_kept_Put c.states (keyE p) { State:=t.1,series:=bareP p }=some (true,⟨c.states.most,W64 (c.states.clock+1),putP (keyE p) ⟨⟨t.1,bareP p⟩,W64 (c.states.clock+1)⟩ c.states.m⟩):=by
    unfold m_table_Table_convert_kept_Put;rw [jn_eq,room,bndS]
    by_cases hk:(lookP (keyE p) c.states.m).isSome=true
    ·rw [if_neg (by rw [hk];decide)]
     rfl
    ·have:=hn (by simpa using hk)
     rw [if_pos (by simpa using hk),show decide (cfg.Series-(c.states.m.length:Int)=0)=false by simp only [decide_eq_false_iff_not];omega]
     rfl
   rw [hput,bndS,hc.mo]
 by_cases hk:(lookP (keyE p) c.states.m).isSome=true
 ·rw [if_neg (by rw [r2',hk];decide),if_neg (by rw [hk];simp)]
  exact body false rfl (λh=>by rw [hk] at h;cases h)
 ·have hk':(lookP (keyE p) c.states.m).isSome=false:=by simpa using hk
  rw [if_pos (by rw [r2',hk'];rfl),room,bndS]
  by_cases hl:(c.states.m.length:Int)=cfg.Series
  ·rw [if_pos ⟨hk',hl⟩,show decide (cfg.Series-(c.states.m.length:Int)=0)=true by simp only [decide_eq_true_eq];omega]
   rfl
  ·rw [if_neg λh=>hl h.2,show decide (cfg.Series-(c.states.m.length:Int)=0)=false by simp only [decide_eq_false_iff_not];omega]
   exact body false rfl λ_=>hl
def nk (x:T_table_slot_convert_kept_):St×Pt:=(x.v.State,back x.v.series)
structure RL (a b:Cv):Prop where
 k:(a.states.m.map (·.1)).Perm (b.states.m.map (·.1))
 s:∀ K,(lookP K a.states.m).map nk=(lookP K b.states.m).map nk
theorem RL.len {a b:Cv} (h:RL a b):a.states.m.length=b.states.m.length:=by
 have:=h.k.length_eq;simpa using this
theorem RL.refl (a:Cv):RL a a:=⟨.refl _,λ_=>rfl⟩
theorem RL.symm {a b:Cv} (h:RL a b):RL b a:=⟨h.k.symm,λK=>(h.s K).symm⟩
theorem RL.st {a b:Cv} (h:RL a b) (K:List UInt8):stO a K=stO b K:=by
 have:=congrArg (Option.map (·.1)) (h.s K);rw [Option.map_map,Option.map_map] at this;exact this
theorem putP_keys {α:Type} (k:List UInt8) (x:α):∀ l:Kv α,(putP k x l).map (·.1)=if (lookP k l).isSome=true then l.map (·.1) else l.map (·.1)++[k]
 | []=>rfl
 | p::r=>by
  unfold putP
  by_cases h:p.1=k
  ·rw [if_pos h]
   have:(lookP k (p::r)).isSome=true:=by unfold lookP;simp [List.find?_cons,h]
   rw [if_pos this];simp [h]
  ·rw [if_neg h]
   have e:lookP k (p::r)=lookP k r:=by unfold lookP;simp [List.find?_cons,h]
   rw [List.map_cons,putP_keys k x r,e,List.map_cons]
   split
   ·rfl
   ·rfl
theorem InvG.put {cfg:T_api_Config} {c:Cv} (hc:InvG cfg c) {K:List UInt8} {x:T_table_slot_convert_kept_} (hk:KE cfg K x.v) (cl:Int) (hr:¬((lookP K c.states.m).isSome=false∧(c.states.m.length:Int)=cfg.Series)):InvG cfg ⟨cfg,⟨cfg.Series,cl,putP K x c.states.m⟩⟩:=by
 refine ⟨rfl,rfl,?_,?_,λe he=>?_⟩
 ·have hle:=hc.le
  show ((putP K x c.states.m).length:Int)≤_
  by_cases h:(lookP K c.states.m).isSome=true
  ·obtain ⟨y,hy⟩:=Option.isSome_iff_exists.1 h
   rw [putP_len2 _ _ y _ hy];exact hle
  ·have:=putP_len K x c.states.m
   have h2:(c.states.m.length:Int)≠cfg.Series:=λh3=>hr ⟨by simpa using h,h3⟩
   omega
 ·show ((putP K x c.states.m).map (·.1)).Nodup
  rw [putP_keys]
  split
  ·exact hc.nd
  ·rename_i h
   rw [List.nodup_append];refine ⟨hc.nd,by simp,λa ha b hb=>?_⟩;rw [List.mem_singleton] at hb;subst hb
   have h':lookP b c.states.m=none:=by simpa using h
   obtain ⟨e,he,rfl⟩:=List.mem_map.1 ha
   exact λh2=>lookP_none.1 h' e he h2
 ·rcases putP_mem _ _ _ e he with h | h
  ·rw [h];exact hk
  ·exact hc.ke e h
theorem RL.put {a b:Cv} (h:RL a b) (K:List UInt8) {x y:T_table_slot_convert_kept_} (hxy:nk x=nk y) (c1 c2:T_api_Config) (m1 m2 l1 l2:Int):RL ⟨c1,⟨m1,l1,putP K x a.states.m⟩⟩ ⟨c2,⟨m2,l2,putP K y b.states.m⟩⟩:=by
 refine ⟨?_,λK'=>?_⟩
 ·show ((putP K x a.states.m).map (·.1)).Perm ((putP K y b.states.m).map (·.1))
  rw [putP_keys,putP_keys]
  have e:(lookP K a.states.m).isSome=(lookP K b.states.m).isSome:=by
   have:=congrArg Option.isSome (h.s K);simpa using this
  rw [e]
  split
  ·exact h.k
  ·exact h.k.append (.refl _)
 ·show (lookP K' (putP K x a.states.m)).map nk=(lookP K' (putP K y b.states.m)).map nk
  rw [lookP_put,lookP_put]
  split
  ·rw [Option.map_some,Option.map_some,hxy]
  ·exact h.s K'
theorem Take_R {cfg:T_api_Config} (hg:GoodC cfg) {p:Pt} (hp:Few p) (hi:okI p.Int_) {a b:Cv} (ha:InvG cfg a) (hb:InvG cfg b) (h:RL a b) :
 ∃ q e a' b',m_convert_Converter_Take a p=some (q,e,a')∧m_convert_Converter_Take b p=some (q,e,b')∧InvG cfg a'∧InvG cfg b'∧RL a' b'∧Few q:=by
 have hbk:=hg.b0;rw [Take_eq a hp,Take_eq b hp,ha.cf,hb.cf]
 have hf:Tot (λx=>x.1=0→PV p∧p.Flags=0∧FV p cfg.Buckets x.2) (fitT p cfg.Buckets):=by
  unfold fitT
  have e0:(if (keyR p).2=0∧p.Flags≠0 then (3:Int) else (keyR p).2)=0→PV p∧p.Flags=0:=by
   intro h
   split at h
   ·simp at h
   ·rename_i h1
    have h2:pcE p=0:=by
     unfold keyR at h
     split at h
     ·assumption
     ·exact h
    exact ⟨.of h2,by
     by_cases hf:p.Flags=0
     ·exact hf
     ·exact absurd ⟨h,hf⟩ h1⟩
  generalize (if (keyR p).2=0∧p.Flags≠0 then (3:Int) else (keyR p).2)=E at *
  refine Tot.ite (λh=>?_) λh=>.some λh0=>?_
  ·obtain ⟨v,f⟩:=e0 h.1
   exact (Fit_ok hp.h _).bind λr hr=>.some λh0=>⟨v,f,.fit v hp h.2 hr h0⟩
  ·obtain ⟨v,f⟩:=e0 h0
   exact ⟨v,f,.same (by omega) v hp λh4=>h ⟨h0,h4⟩⟩
 obtain ⟨x,hx,hx2⟩:=hf;rw [hx,bndS,bndS]
 by_cases h0:x.1=0
 ·obtain ⟨v,f,fv⟩:=hx2 h0
  obtain ⟨v2,w2,⟨hh,e2⟩,lp,ln⟩:=fv
  have ek:keyE x.2=(keyR p).1:=by
   unfold keyR;rw [if_pos v.to,e2]
   rfl
  have i2:okI x.2.Int_:=by rw [e2];exact hi
  have f2:x.2.Flags=0:=by rw [e2];exact f
  rw [h0,← ek,tail_form hg w2 a ha,tail_form hg w2 b hb];unfold tailF
  have es:(lookP (keyE x.2) a.states.m).isSome=(lookP (keyE x.2) b.states.m).isSome:=by
   have:=congrArg Option.isSome (h.s (keyE x.2));simpa using this
  rw [← h.st,← es,← h.len]
  split
  ·exact ⟨ptZ,6,a,b,rfl,rfl,ha,hb,h,few0⟩
  ·rename_i hr
   have hst:IS x.2.Mono ((stO a (keyE x.2)).getD st0)∧(((stO a (keyE x.2)).getD st0).Some=true→SV cfg.Buckets x.2 ((stO a (keyE x.2)).getD st0))∧((stO a (keyE x.2)).getD st0).Int_≤9223372036854775807:=by
    cases hs:stO a (keyE x.2) with
    | none=>exact ⟨.zero _,(λh=>by cases h),by decide⟩
    | some s=>
     unfold stO at hs;obtain ⟨y,hy,rfl⟩:=Option.map_eq_some_iff.1 hs;obtain ⟨g1,g2⟩:=(ha.ke _ (lookP_mem hy)).is v2 rfl;exact ⟨g1,λ_=>g2,g2.i.2⟩
   obtain ⟨t,ht,ht2⟩:=fc_sv hg hst.1 hst.2.1 hst.2.2 w2 v2 i2 f2;obtain ⟨t',ht',ht3⟩:=fc_ok hg hst.1 hst.2.2 w2 v2 i2.2 f2 lp ln;rw [ht] at ht';obtain rfl:=Option.some.inj ht';rw [ht,bndS,bndS]
   by_cases h4:t.2.2=0
   ·rw [if_neg (by simp [h4]),if_neg (by simp [h4])]
    obtain ⟨sv,sz⟩:=ht2 h4;have ke:KE cfg (keyE x.2) ⟨t.1,bareP x.2⟩:=⟨sv.v,sv.so,rfl,sv.lp,sv.ln,sv.i,sz,rfl⟩;exact ⟨_,_,_,_,rfl,rfl,ha.put (x:=⟨⟨t.1,bareP x.2⟩,_⟩) ke _ hr,hb.put (x:=⟨⟨t.1,bareP x.2⟩,_⟩) ke _ (by rw [← es,← h.len];exact hr),h.put _ (x:=⟨⟨t.1,bareP x.2⟩,_⟩) (y:=⟨⟨t.1,bareP x.2⟩,_⟩) (by exact rfl) _ _ _ _ _ _,(ht3 h4).1.w⟩
   ·rw [if_pos h4,if_pos h4]
    exact ⟨ptZ,_,a,b,rfl,rfl,ha,hb,h,few0⟩
 ·unfold tailT
  rw [if_pos h0,if_pos h0];exact ⟨ptZ,_,a,b,rfl,rfl,ha,hb,h,few0⟩
end Go.Proofs.YtaikmpmokihciaaGreat
set_option maxRecDepth 20000
set_option linter.unusedVariables false
set_option linter.unusedSimpArgs false
namespace Go.Proofs.YtaikmpmokihciaaGreat
open Go Go.RowKit Go.Wk
abbrev Sl0:=T_table_slot_convert_kept_
theorem eqU_eq (a b:List UInt64) (h:a.length≤1000000):m_slices_Equal_uint64_uint64 a b=some (decide (a=b)):=by
 unfold m_slices_Equal_uint64_uint64
 by_cases hl:a.length=b.length
 ·rw [if_neg (by omega),jn_eq,m_slices_Equal_uint64_uint64_L1_scan _ _ _ (by omega)]
  exact scan_same a b hl _ _ rfl λi x k=>by rw [bndS];simp only [u64ne]
 ·rw [if_pos (by omega)]
  have:a≠b:=λh=>hl (by rw [h])
  simp [this]
theorem hsame_eq (a b:T_api_Side) (h:a.Counts.length≤1000000):m_hist_same a b=some (decide (a=b)):=by
 unfold m_hist_same;rw [jn_eq]
 by_cases hc:a.Offset=b.Offset
 ·rw [if_pos hc,eqU_eq _ _ h,bndS];congr 1;apply decide_eq_decide.2;rw [side_ext];simp [hc]
 ·rw [if_neg hc];congr 1;symm;rw [decide_eq_false_iff_not,side_ext];exact λh=>hc h.1
theorem pHist_eq (a b:T_api_Hist) (h1:a.Pos.Counts.length≤1000000) (h2:a.Neg.Counts.length≤1000000):m_hist_Same a b=some (decide (a=b)):=by
 unfold m_hist_Same;rw [hsame_eq _ _ h1,hsame_eq _ _ h2];simp only [u64eq,bndS,jn_eq]
 by_cases hc:a.Scale=b.Scale∧a.Zero=b.Zero
 ·rw [if_pos hc]
  by_cases hp:a.Pos=b.Pos
  ·rw [decide_eq_true hp,if_pos rfl];congr 1;apply decide_eq_decide.2;rw [hist_ext];simp [hc,hp]
  ·rw [decide_eq_false hp];simp only [Bool.false_eq_true,if_false];congr 1;symm;rw [decide_eq_false_iff_not,hist_ext];exact λh=>hp h.2.1
 ·rw [if_neg hc];simp only [Bool.false_eq_true,if_false];congr 1;symm;rw [decide_eq_false_iff_not,hist_ext];exact λh=>hc h.1
def getv (m:Kv Sl0) (K:List UInt8):T_convert_kept:=((lookP K m).getD zl136).v
theorem Get_eq (t:T_table_Table_convert_kept_) (K:List UInt8):m_table_Table_convert_kept_Get t K=some (getv t.m K,(lookP K t.m).isSome):=by
 unfold m_table_Table_convert_kept_Get getv
 cases lookP K t.m<;>rfl
def fE (m:Kv Sl0) (K:List UInt8):List UInt8:=encT (bytesE (ptK (getv m K)))
theorem getv_of {m:Kv Sl0} (hn:(m.map (·.1)).Nodup) {e:List UInt8×Sl0} (he:e∈m):getv m e.1=e.2.v:=by
 unfold getv;rw [lookP_of_mem hn he]
 rfl
theorem sortK_perm (m:Kv Sl0):(sortK m).Perm (m.map (·.1)):=List.mergeSort_perm _ _
theorem InvG.get {cfg:T_api_Config} {c:Cv} (hc:InvG cfg c) {K:List UInt8} (hK:K∈sortK c.states.m):KE cfg K (getv c.states.m K):=by
 obtain ⟨e,he,rfl⟩:=List.mem_map.1 ((sortK_perm _).mem_iff.1 hK);rw [getv_of hc.nd he];exact hc.ke e he
theorem KE.len {cfg:T_api_Config} {K:List UInt8} {x:T_convert_kept} (h:KE cfg K x):(bytesE (ptK x)).length≤12000:=by
 have l:=h.v.hl;have h1:=headE_len h.v;have h2:=valE_len (p:=ptK x) (by omega) (by omega);unfold bytesE;rw [List.length_append];omega
theorem encT_len (s:List UInt8):(encT s).length≤s.length+9:=by
 have:=enc_len_le (UInt64.ofNat s.length);unfold encT;rw [List.length_append];omega
theorem flat_len {f:List UInt8→List UInt8} {B:Nat}:∀ l:List (List UInt8),(∀ x∈l,(f x).length≤B)→(l.flatMap f).length≤B*l.length
 | [],_=>by simp
 | x::l,h=>by
  have h1:=h x (by simp)
  have h2:=flat_len l λy hy=>h y (by simp [hy])
  rw [List.flatMap_cons,List.length_append,List.length_cons,Nat.mul_add,Nat.mul_one];omega
def saveB (m:Kv Sl0):List UInt8:=enc (UInt64.ofNat m.length)++(sortK m).flatMap (fE m)
theorem InvG.flat {cfg:T_api_Config} {c:Cv} (hc:InvG cfg c) (p:List (List UInt8)) (hp:∀ K∈p,K∈sortK c.states.m):(p.flatMap (fE c.states.m)).length≤12100*p.length:=
 flat_len p λx hx=>by
  have h1:=(hc.get (hp x hx)).len;have h2:=encT_len (bytesE (ptK (getv c.states.m x)));unfold fE;omega
theorem Save_eq {cfg:T_api_Config} (hg:GoodC cfg) {c:Cv} (hc:InvG cfg c):m_convert_Converter_Save c=some (saveB c.states.m):=by
 have hle:=hc.le;have s1:=hg.s1
 have hlen:(sortK c.states.m).length=c.states.m.length:=by have:=(sortK_perm c.states.m).length_eq;simpa using this
 unfold m_convert_Converter_Save m_pack_NewWriter m_table_Table_convert_kept_Len m_table_Table_convert_kept_Keys
 have hk:keysG c.states.m=some (sortK c.states.m):=by
  unfold keysG;refine if_pos ⟨λk hk=>?_,by omega⟩;obtain ⟨e,he,rfl⟩:=List.mem_map.1 hk;have ke:=hc.ke e he;rw [← ke.k];exact keyE_len ke.v
 have h9:=enc_len_le (UInt64.ofNat c.states.m.length);rw [bndS,bndS,toU64_nn (by omega) (by omega),Int.toNat_natCast,wnum_eq _ _ (by simp),bndS,hk,bndS,bndS,jn_eq,m_convert_Converter_Save_L1_scan _ _ _ _ (by omega),List.nil_append]
 refine scanL_inv (λ(p:List (List UInt8)) (w:Wr)=>w=⟨enc (UInt64.ofNat c.states.m.length)++p.flatMap (fE c.states.m)⟩) (λ_ _ _=>some (saveB c.states.m)) (by simp) (λw hw=>?_) λp x q w k hp hw hk=>?_
 ·have hf:=hc.flat (sortK c.states.m) λ_ h=>h
  unfold m_pack_Writer_Bytes;rw [hw,clone_eq _ (by rw [List.length_append];omega),bndS,bndS]
  rfl
 ·have hx:x∈sortK c.states.m:=by rw [← hp];simp
  have ke:=hc.get hx
  have hpl:p.length≤16:=by have:=congrArg List.length hp;simp at this;omega
  have hf:=hc.flat p λK hK=>by rw [← hp];simp [hK]
  have hbl:=ke.len;rw [bndS,Get_eq,bndS];show ((some (ptK (getv c.states.m x))).bind λp44=>_)=_;rw [bndS,bytes_eq ke.v ke.i,bndS,hw,wtext_eq _ _ (by rw [List.length_append];omega) (by dsimp only;omega),bndS];exact hk _ (by simp [fE])
theorem passes_eq (c:Cv) (p:Pt):m_convert_Converter_passes c p=some (decide (p.Temp=0∨c.cfg.Out=0∨p.Temp=c.cfg.Out)):=by
 unfold m_convert_Converter_passes
 split
 ·rename_i h;simp [h]
 ·rename_i h1
  split
  ·rename_i h;simp [h]
  ·rename_i h2;simp [h1,h2]
def vB (x:T_convert_kept):T_convert_kept:=⟨x.State,bareP (back (ptK x))⟩
structure LI (m:Kv Sl0) (cfg:T_api_Config) (p:List (List UInt8)) (c:Cv):Prop where
 cf:c.cfg=cfg
 mo:c.states.most=cfg.Series
 ks:c.states.m.map (·.1)=p
 en:∀ e∈c.states.m,e.2.v=vB (getv m e.1)
theorem putP_new {α:Type} (k:List UInt8) (x:α):∀ l:Kv α,(∀ e∈l,e.1≠k)→putP k x l=l++[(k,x)]
 | [],_=>rfl
 | p::r,h=>by
  unfold putP;rw [if_neg (h p (by simp)),putP_new k x r λe he=>h e (by simp [he])]
  rfl
theorem keyE_back (p:Pt):keyE (back p)=keyE p:=by
 unfold keyE;show ((back p).Name++texts (srt (srt p.Attrs)))++_=_;rw [srt_srt]
 rfl
theorem load_step {m:Kv Sl0} {cfg:T_api_Config} (hg:GoodC cfg) {p:List (List UInt8)} {c:Cv} {K last:List UInt8} (hk:KE cfg K (getv m K)) (hl:LI m cfg p c) (hn:K ∉ p) (hp:(p.length:Int)<cfg.Series) (hlt:Op.bytesLess last K=true) :
 ∃ c',LI m cfg (p++[K]) c'∧m_convert_Converter_load c (back (ptK (getv m K))) last=some (K,0,c'):=by
 have s1:=hg.s1;generalize hx:getv m K=x at hk;have v:=hk.v;have vb:=v.back;have lens:=v.hl
 have hf:x.series.Flags=0:=by rw [hk.sb];rfl
 have fw:Few (back (ptK x)):=⟨by show (srt x.series.Attrs).length≤20;rw [srt_len];have h9:=(check_ok v.c).2.1;have h8:x.series.Attrs.length≤4:=h9;omega,by show x.State.Hist.Pos.Counts.length≤_;have h9:x.State.Hist.Pos.Counts.length≤160:=lens.1;omega,by show x.State.Hist.Neg.Counts.length≤_;have h9:x.State.Hist.Neg.Counts.length≤160:=lens.2;omega⟩
 have hpm:c.states.m.length=p.length:=by have:=congrArg List.length hl.ks;simpa using this
 have est:({ Some:=true,Start:=x.State.Start,Time:=x.State.Time,Int_:=x.State.Int_,Re:=x.State.Re,Im:=x.State.Im,Hist:=x.State.Hist }:St)=x.State:=by rw [← hk.so]
 refine ⟨⟨c.cfg,⟨c.states.most,W64 (c.states.clock+1),putP K ⟨vB x,W64 (c.states.clock+1)⟩ c.states.m⟩⟩,?_,?_⟩
 ·have hne:∀ e∈c.states.m,e.1≠K:=λe he h=>hn (by rw [← hl.ks,← h];exact List.mem_map_of_mem he)
  have hput:=putP_new K (⟨vB x,W64 (c.states.clock+1)⟩:Sl0) _ hne;refine ⟨hl.cf,hl.mo,?_,λe he=>?_⟩
  ·show (putP K _ c.states.m).map (·.1)=_
   rw [hput,List.map_append,hl.ks];rfl
  ·have he':e∈putP K (⟨vB x,W64 (c.states.clock+1)⟩:Sl0) c.states.m:=he
   rw [hput] at he'
   rcases List.mem_append.1 he' with h|h
   ·exact hl.en e h
   ·rw [List.mem_singleton] at h
    rw [h];show vB x=vB (getv m K);rw [hx]
 ·have hz:=hk.z
  unfold m_convert_Converter_load;rw [key_eq _ fw.p fw.n,bndS]
  have ekey:keyR (back (ptK x))=(K,0):=by
   unfold keyR;rw [if_pos vb.to,keyE_back,hk.k]
  rw [ekey]
  refine jn_post (λj=>∀ y:Bool,((x.series.Temp=0∨cfg.Out=0∨x.series.Temp=cfg.Out)→y=false)→j y=some (K,0,⟨c.cfg,⟨c.states.most,W64 (c.states.clock+1),putP K ⟨vB x,W64 (c.states.clock+1)⟩ c.states.m⟩⟩)) (λy hy=>?_) λj hj=>?_
  ·refine jn_post (λj=>j false=some (K,0,⟨c.cfg,⟨c.states.most,W64 (c.states.clock+1),putP K ⟨vB x,W64 (c.states.clock+1)⟩ c.states.m⟩⟩)) ?_ λj hj=>?_
   ·rw [if_neg (by decide),if_neg (by rw [hl.cf];show ¬max (x.State.Hist.Pos.Counts.length:Int) (x.State.Hist.Neg.Counts.length:Int)>cfg.Buckets;have:=hk.lp;have:=hk.ln;omega),if_neg (by rw [hlt];decide),jn_eq,hclone_eq _ fw.p fw.n,bndS]
    dsimp only;rw [bare_eqP fw,bndS]
    have hput:m_table_Table_convert_kept_Put c.states K (⟨x.State,bareP (back (ptK x))⟩:T_convert_kept)=some (true,⟨c.states.most,W64 (c.states.clock+1),putP K ⟨vB x,W64 (c.states.clock+1)⟩ c.states.m⟩):=by
     have room:m_table_Table_convert_kept_Room c.states=some (cfg.Series-(c.states.m.length:Int)):=by
      unfold m_table_Table_convert_kept_Room;rw [hl.mo,W64_id (by omega) (by omega)]
     unfold m_table_Table_convert_kept_Put;rw [jn_eq,room,bndS,show decide (cfg.Series-(c.states.m.length:Int)=0)=false by simp only [decide_eq_false_iff_not];omega]
     split<;>rfl
    show ((m_table_Table_convert_kept_Put c.states K (⟨({ Some:=true,Start:=x.State.Start,Time:=x.State.Time,Int_:=x.State.Int_,Re:=x.State.Re,Im:=x.State.Im,Hist:=x.State.Hist }:St),bareP (back (ptK x))⟩:T_convert_kept)).bind λp52=>_)=_;rw [est,hput,bndS]
   ·have pe:=passes_eq c (back (ptK x))
    rw [hl.cf] at pe;rw [if_neg (by show ¬x.series.Flags≠0;rw [hf];simp),pe,bndS]
    have e:decide (decide ((back (ptK x)).Temp=0∨cfg.Out=0∨(back (ptK x)).Temp=cfg.Out)=true∧y=true)=false:=by
     simp only [decide_eq_false_iff_not,decide_eq_true_eq,not_and];intro h;rw [hy h];decide
    rw [e];exact hj
  ·by_cases hc:(((back (ptK x)).Int_≠0)∨((((back (ptK x)).Re).toNat:Int)≠0))∨((((back (ptK x)).Im).toNat:Int)≠0)
   ·rw [if_pos hc]
    refine hj _ λhp=>?_
    obtain ⟨z1,z2,z3,z4⟩:=hz hp;have hc':((x.State.Int_≠0)∨(((x.State.Re).toNat:Int)≠0))∨(((x.State.Im).toNat:Int)≠0):=hc;rw [z1,z2,z3] at hc';simp at hc'
   ·rw [if_neg hc]
    rw [pHist_eq _ _ fw.p fw.n,bndS]
    refine hj _ λhp=>?_
    obtain ⟨z1,z2,z3,z4⟩:=hz hp;have e:decide ((back (ptK x)).Hist=hZ)=true:=decide_eq_true z4;show (!decide ((back (ptK x)).Hist=hZ))=false;rw [e];rfl
theorem loadL {m:Kv Sl0} {cfg:T_api_Config} (hg:GoodC cfg) {ks:List (List UInt8)} (hks:∀ K∈ks,KE cfg K (getv m K)) (hnd:ks.Nodup) (hs:(ks.length:Int)≤cfg.Series) {pre b:List UInt8} (hb:b=pre++ks.flatMap (fE m)) (hl:b.length≤1000000000) (p15:Int×T_pack_Reader) (h15:p15.1=ks.length) :
 ∀ (q p:List (List UInt8)) (n:Nat) (last:List UInt8) (c:Cv),p++q=ks→q.length<n→(last::q).Pairwise (λa b=>Op.bytesLess a b=true)→LI m cfg p c →
  ∃ c',LI m cfg ks c'∧∀ j,m_convert_Load_L1 p15 j n last (p.length:Int) ⟨b,((pre++p.flatMap (fE m)).length:Nat),0⟩ (some c)=j ⟨b,(b.length:Nat),0⟩ (some c')
 | [],p,n,last,c,hp,hn,hw,hc=>by
  obtain ⟨n,rfl⟩:∃ k,n=k+1:=⟨n-1,by omega⟩;rw [List.append_nil] at hp;subst hp;refine ⟨c,hc,λj=>?_⟩;rw [m_convert_Load_L1,if_neg (by omega),← hb]
 | K::q,p,n,last,c,hp,hn,hw,hc=>by
  have s1:=hg.s1;obtain ⟨n,rfl⟩:∃ k,n=k+1:=⟨n-1,by omega⟩;have hlen:=congrArg List.length hp;simp only [List.length_append,List.length_cons] at hlen hn
  have hK:K∈ks:=by rw [← hp];simp
  have ke:=hks K hK
  have hnp:K ∉ p:=by
   rw [← hp,List.nodup_append] at hnd
   exact λh=>hnd.2.2 K h K (by simp) rfl
  have hw':=List.pairwise_cons.1 hw;obtain ⟨c1,h1,h2⟩:=load_step hg ke hc hnp (by omega) (hw'.1 K (by simp));obtain ⟨c',h3,h4⟩:=loadL hg hks hnd hs hb hl p15 h15 q (p++[K]) n K c1 (by simpa using hp) (by omega) hw'.2 h1;refine ⟨c',h3,λj=>?_⟩;have hbl:=ke.len;have r0:=rtext_eq (pre++p.flatMap (fE m)) (bytesE (ptK (getv m K))) (q.flatMap (fE m)) 65536 (b:=b) (at_:=((pre++p.flatMap (fE m)).length:Nat)) (by rw [hb,← hp];simp [fE]) rfl hl (by omega) (by omega);rw [show ((65536:Nat):Int)=65536 from rfl] at r0;rw [m_convert_Load_L1,if_pos (by omega),r0,bndS];unfold m_pack_Reader_Err;rw [bndS];dsimp only;rw [if_neg (by simp),len_some (by omega),bndS,read_eq _ ke.v ke.i,bndS,jn_eq];dsimp only;rw [if_pos rfl,bndS,h2,bndS];dsimp only;rw [if_neg (by simp),W64_id (by omega) (by omega)];have h5:=h4 j;rw [show ((p++[K]).length:Int)=(p.length:Int)+1 by simp] at h5;rw [← h5]
  congr 3
  simp [fE]
theorem ks_lt {m:Kv Sl0} (hn:(m.map (·.1)).Nodup):(sortK m).Pairwise (λa b=>Op.bytesLess a b=true):=by
 have h1:(sortK m).Pairwise (λa b=>a≤b):=by
  have:=List.pairwise_mergeSort (le:=leK) (λa b c h1 h2=>by simp only [leK,decide_eq_true_eq] at *;exact tle_trans h1 h2) (λa b=>by simp only [leK,Bool.or_eq_true,decide_eq_true_eq];exact tle_total a b) (m.map (·.1))
  exact this.imp λh=>by simpa [leK] using h
 have h2:(sortK m).Nodup:=(sortK_perm m).nodup_iff.2 hn
 exact (List.pairwise_and_iff.2 ⟨h1,h2⟩).imp λ⟨a,b⟩=>bl_iff.2 (tlt_of a b)
theorem KE.ne {cfg:T_api_Config} {K:List UInt8} {x:T_convert_kept} (h:KE cfg K x):Op.bytesLess [] K=true:=by
 rw [bl_iff,← h.k];unfold keyE;generalize (ptK x).Name++texts (srt (ptK x).Attrs)=T
 cases T with
 | nil=>exact List.nil_lt_cons _ _
 | cons a t=>exact List.nil_lt_cons _ _
theorem KE.vb {cfg:T_api_Config} {K:List UInt8} {x:T_convert_kept} (h:KE cfg K x):KE cfg K (vB x)∧(x.State,back x.series)=((vB x).State,back (vB x).series):=by
 have hf:x.series.Flags=0:=by rw [h.sb];rfl
 have e:ptK (vB x)=back (ptK x):=by
  show ({ Name:=x.series.Name,Attrs:=srt x.series.Attrs,Kind:=x.series.Kind,Temp:=x.series.Temp,Mono:=x.series.Mono,Start:=x.State.Start,Time:=x.State.Time,Int_:=x.State.Int_,Re:=x.State.Re,Im:=x.State.Im,Hist:=x.State.Hist,Flags:=0 }:Pt)={ Name:=x.series.Name,Attrs:=srt x.series.Attrs,Kind:=x.series.Kind,Temp:=x.series.Temp,Mono:=x.series.Mono,Start:=x.State.Start,Time:=x.State.Time,Int_:=x.State.Int_,Re:=x.State.Re,Im:=x.State.Im,Hist:=x.State.Hist,Flags:=x.series.Flags };rw [hf]
 refine ⟨⟨by rw [e];exact h.v.back,h.so,by rw [e,keyE_back,h.k],h.lp,h.ln,h.i,h.z,by rw [e];rfl⟩,?_⟩;show (x.State,back x.series)=(x.State,back (bareP (back (ptK x))))
 congr 1
 have e2:back (bareP (back (ptK x)))=back (bareP (ptK x)):=by
  show ({ bareP (ptK x) with Attrs:=srt (srt x.series.Attrs) }:Pt)={ bareP (ptK x) with Attrs:=srt x.series.Attrs };rw [srt_srt]
 rw [e2,← h.sb]
theorem Load_eq {cfg:T_api_Config} (hg:GoodC cfg) {c:Cv} (hc:InvG cfg c):∃ b,m_convert_Load cfg (saveB c.states.m)=some (some b,0)∧InvG cfg b∧RL c b:=by
 have s0:=hg.s0;have s1:=hg.s1;have o0:=hg.o0;have o1:=hg.o1;have b0:=hg.b0;have b1:=hg.b1;have hle:=hc.le
 have hlen:(sortK c.states.m).length=c.states.m.length:=by have:=(sortK_perm c.states.m).length_eq;simpa using this
 have hnd:(sortK c.states.m).Nodup:=(sortK_perm _).nodup_iff.2 hc.nd
 have hf:=hc.flat (sortK c.states.m) λ_ h=>h
 have h9:=enc_len_le (UInt64.ofNat c.states.m.length)
 have hbl:(saveB c.states.m).length≤1000000000:=by unfold saveB;rw [List.length_append];omega
 have hlt:(([]:List UInt8)::sortK c.states.m).Pairwise (λa b=>Op.bytesLess a b=true):=List.pairwise_cons.2 ⟨λK hK=>(hc.get hK).ne,ks_lt hc.nd⟩;have li0:LI c.states.m cfg [] ⟨cfg,⟨max cfg.Series 0,0,[]⟩⟩:=⟨rfl,by show max cfg.Series 0=cfg.Series;omega,rfl,λe he=>by cases he⟩;obtain ⟨F,hF⟩:=fuelS 100 (by omega);obtain ⟨b,hb,hj⟩:=loadL hg (λK hK=>hc.get hK) hnd (by omega) (pre:=enc (UInt64.ofNat c.states.m.length)) (b:=saveB c.states.m) rfl hbl ((c.states.m.length:Int),⟨saveB c.states.m,((enc (UInt64.ofNat c.states.m.length)).length:Nat),0⟩) (by rw [hlen]) (sortK c.states.m) [] fuel [] _ rfl (by omega) hlt li0
 have hbn:(b.states.m.map (·.1)).Nodup:=by rw [hb.ks];exact hnd
 have hbm:∀ e∈b.states.m,e.1∈sortK c.states.m:=λe he=>by rw [← hb.ks];exact List.mem_map_of_mem he
 refine ⟨b,?_,⟨hb.cf,hb.mo,?_,hbn,λe he=>?_⟩,⟨?_,λK=>?_⟩⟩
 ·unfold m_convert_Load
  rw [cnew_eq,if_pos (decide_eq_true (by omega)),bndS,if_neg (by simp),new_eq _ hbl,bndS];have r0:=rcount_eq [] ((sortK c.states.m).flatMap (fE c.states.m)) c.states.m.length cfg.Series.toNat (b:=saveB c.states.m) (at_:=0) (by rw [List.nil_append];rfl) rfl hbl (by omega) (by omega);rw [show ((cfg.Series.toNat:Nat):Int)=cfg.Series by omega,List.nil_append] at r0;rw [r0,bndS,jn_eq]
  have h5:=hj (λ(y19:T_pack_Reader) (y20:(Option T_convert_Converter))=>
   ((m_pack_Reader_Done y19).bind λp22=>
    if p22≠0 then
    (some ((none:Option T_convert_Converter),p22))
    else
    (some (y20,0))))
  rw [done_eq _ hbl,bndS,if_neg (by simp)] at h5;have e0:(enc (UInt64.ofNat c.states.m.length)++([]:List (List UInt8)).flatMap (fE c.states.m))=enc (UInt64.ofNat c.states.m.length):=List.append_nil _;rw [e0] at h5;exact h5
 ·have:=congrArg List.length hb.ks
  rw [List.length_map,hlen] at this;rw [this];exact hle
 ·rw [hb.en e he]
  exact (hc.get (hbm e he)).vb.1
 ·rw [hb.ks];exact (sortK_perm _).symm
 ·cases h:lookP K c.states.m with
  | none=>
   have:lookP K b.states.m=none:=by
    rw [lookP_none] at h ⊢;intro e he h2;have:=(sortK_perm c.states.m).mem_iff.1 (hbm e he);obtain ⟨e',he',h3⟩:=List.mem_map.1 this;exact h e' he' (h3.trans h2)
   rw [this]
  | some x=>
   have hK:K∈sortK c.states.m:=(sortK_perm _).mem_iff.2 (List.mem_map.2 ⟨_,lookP_mem h,rfl⟩);have hK':=hK;rw [← hb.ks] at hK';obtain ⟨e,he,rfl⟩:=List.mem_map.1 hK';rw [lookP_of_mem hbn he,Option.map_some,Option.map_some];have e1:=hb.en e he;have e2:=(hc.get hK).vb.2
   have e3:getv c.states.m e.1=x.v:=by unfold getv;rw [h];rfl
   unfold nk;rw [e1,← e2,e3]
theorem flat_congr {f g:List UInt8→List UInt8}:∀ l:List (List UInt8),(∀ x∈l,f x=g x)→l.flatMap f=l.flatMap g
 | [],_=>rfl
 | x::l,h=>by rw [List.flatMap_cons,List.flatMap_cons,h x (by simp),flat_congr l λy hy=>h y (by simp [hy])]
theorem Save_R {cfg:T_api_Config} {a b:Cv} (ha:InvG cfg a) (hb:InvG cfg b) (h:RL a b):saveB a.states.m=saveB b.states.m:=by
 have e1:sortK a.states.m=sortK b.states.m:=by
  have:=mergeSort_of_perm h.k;exact this
 unfold saveB;rw [h.len,e1];refine congrArg (λz=>enc (UInt64.ofNat b.states.m.length)++z) (flat_congr _ λK hK=>?_);have ka:=ha.get (by rw [e1];exact hK);have hs:=h.s K;have hm:K∈b.states.m.map (·.1):=(sortK_perm _).mem_iff.1 hK;obtain ⟨eb,heb,rfl⟩:=List.mem_map.1 hm;have lb:=lookP_of_mem hb.nd heb;rw [lb] at hs
 obtain ⟨xa,hxa,hx⟩:∃ xa,lookP eb.1 a.states.m=some xa∧nk xa=nk eb.2:=by
  cases hl:lookP eb.1 a.states.m with
  | none=>rw [hl] at hs;cases hs
  | some xa=>rw [hl] at hs;exact ⟨xa,rfl,Option.some.inj hs⟩
 unfold fE getv;rw [hxa,lb];show encT (bytesE (ptK xa.v))=encT (bytesE (ptK eb.2.v))
 have bk:∀ p:Pt,bytesE (back p)=bytesE p:=λp=>by
  unfold bytesE headE valE;show encT (p.Name++texts (srt (srt p.Attrs)))++_++_=_;rw [srt_srt]
  rfl
 have pk:back (ptK xa.v)=back (ptK eb.2.v):=by
  have h1:=congrArg Prod.fst hx;have h2:=congrArg Prod.snd hx;dsimp only [nk] at h1 h2
  have ex:∀ x:T_convert_kept,back (ptK x)={ back x.series with Start:=x.State.Start,Time:=x.State.Time,Int_:=x.State.Int_,Re:=x.State.Re,Im:=x.State.Im,Hist:=x.State.Hist }:=λ_=>rfl
  rw [ex,ex,h1,h2]
 rw [← bk (ptK xa.v),pk,bk]
end Go.Proofs.YtaikmpmokihciaaGreat
set_option maxRecDepth 20000
set_option linter.unusedVariables false
set_option linter.unusedSimpArgs false
namespace Go.Proofs.YtaikmpmokihciaaGreat
open Go Go.RowKit Go.Wk
def takeC (c:Cv) (p:Pt):Cv:=((m_convert_Converter_Take c p).map (·.2.2)).getD c
theorem goesL3 {cfg:T_api_Config} (hg:GoodC cfg) {l:List Pt} (hl:∀ p∈l,Few p∧okI p.Int_) (x2:Int) {a:Nat} (ha:(a:Int)=min (max x2 0) (l.length:Int)) (hlen:l.length≤1000) (j:Option Cv→Option Bool) :
 ∀ (k n i:Nat) (c:Cv),InvG cfg c→i+k=a→k<n→∃ c',InvG cfg c'∧m_limnographlaw17_ConvertGoes_L3 l x2 j n (i:Int) (some c)=j (some c')
 | 0,n,i,c,hc,hi,hn=>by
  obtain ⟨n,rfl⟩:∃ k,n=k+1:=⟨n-1,by omega⟩;refine ⟨c,hc,?_⟩;rw [m_limnographlaw17_ConvertGoes_L3,if_neg (by omega)]
 | k+1,n,i,c,hc,hi,hn=>by
  obtain ⟨n,rfl⟩:∃ k,n=k+1:=⟨n-1,by omega⟩
  have hil:i<l.length:=by omega
  obtain ⟨h1,h2⟩:=hl _ (List.getElem_mem hil);obtain ⟨q,e,c1,c2,t1,t2,i1,i2,r,_⟩:=Take_R hg h1 h2 hc hc (RL.refl c);obtain ⟨c',h3,h4⟩:=goesL3 hg hl x2 ha hlen j k n (i+1) c1 i1 (by omega) (by omega);refine ⟨c',h3,?_⟩;rw [m_limnographlaw17_ConvertGoes_L3,if_pos (by omega),idx_at hil,bndS,bndS,t1,bndS,W64_id (by omega) (by omega)];exact h4
theorem goesL2 {cfg:T_api_Config} (hg:GoodC cfg) {l:List Pt} (hl:∀ p∈l,Few p∧okI p.Int_) (hlen:l.length≤1000) (j:Cv→Option Cv→Option Bool) :
 ∀ (k n i:Nat) (a b:Cv),InvG cfg a→InvG cfg b→RL a b→i+k=l.length→k<n→∃ b',InvG cfg ((l.drop i).foldl takeC a)∧InvG cfg b'∧RL ((l.drop i).foldl takeC a) b'∧m_limnographlaw17_ConvertGoes_L2 l j n (i:Int) a (some b)=j ((l.drop i).foldl takeC a) (some b')
 | 0,n,i,a,b,ha,hb,h,hi,hn=>by
  obtain ⟨n,rfl⟩:∃ k,n=k+1:=⟨n-1,by omega⟩;rw [List.drop_of_length_le (by omega)];refine ⟨b,ha,hb,h,?_⟩;rw [m_limnographlaw17_ConvertGoes_L2,if_neg (by omega)]
  rfl
 | k+1,n,i,a,b,ha,hb,h,hi,hn=>by
  obtain ⟨n,rfl⟩:∃ k,n=k+1:=⟨n-1,by omega⟩
  have hil:i<l.length:=by omega
  obtain ⟨h1,h2⟩:=hl _ (List.getElem_mem hil);obtain ⟨q,e,a1,b1,t1,t2,i1,i2,r,fq⟩:=Take_R hg h1 h2 ha hb h
  have et:takeC a l[i]=a1:=by unfold takeC;rw [t1];rfl
  obtain ⟨b',g1,g2,g3,g4⟩:=goesL2 hg hl hlen j k n (i+1) a1 b1 i1 i2 r (by omega) (by omega);rw [List.drop_eq_getElem_cons hil,List.foldl_cons,et];refine ⟨b',g1,g2,g3,?_⟩;rw [m_limnographlaw17_ConvertGoes_L2,if_pos (by omega),idx_at hil,bndS,t1,bndS,bndS,bndS,t2,bndS,rSame_eq fq fq,bndS]
  have es:decide (sameP q q)=true:=by simp [sameP]
  rw [es,if_neg (by simp),W64_id (by omega) (by omega)];exact g4
theorem goesL1 {cfg:T_api_Config} (hg:GoodC cfg) {l:List Pt} (hl:∀ p∈l,Few p∧okI p.Int_) (hlen:l.length≤1000) (j:Cv→Option Bool) :
 ∀ (k n i:Nat) (a:Cv),InvG cfg a→i+k=l.length→k<n→m_limnographlaw17_ConvertGoes_L1 l j n (i:Int) a=j ((l.drop i).foldl takeC a)
 | 0,n,i,a,ha,hi,hn=>by
  obtain ⟨n,rfl⟩:∃ k,n=k+1:=⟨n-1,by omega⟩;rw [List.drop_of_length_le (by omega),m_limnographlaw17_ConvertGoes_L1,if_neg (by omega)]
  rfl
 | k+1,n,i,a,ha,hi,hn=>by
  obtain ⟨n,rfl⟩:∃ k,n=k+1:=⟨n-1,by omega⟩
  have hil:i<l.length:=by omega
  obtain ⟨h1,h2⟩:=hl _ (List.getElem_mem hil);obtain ⟨q,e,a1,b1,t1,t2,i1,i2,r,fq⟩:=Take_R hg h1 h2 ha ha (RL.refl a)
  have et:takeC a l[i]=a1:=by unfold takeC;rw [t1];rfl
  rw [List.drop_eq_getElem_cons hil,List.foldl_cons,et,← goesL1 hg hl hlen j k n (i+1) a1 i1 (by omega) (by omega)];rw [m_limnographlaw17_ConvertGoes_L1,if_pos (by omega),idx_at hil,bndS,t1,bndS,W64_id (by omega) (by omega)]
  rfl
theorem goes_law (x0:T_api_Config) (x1:List Pt) (x2:Int) {P0:Prop} (_:P0) {B C D E F G H I J K L:Pt→Prop} (k1:x1.length≤maxLen∧∀ z∈x1,B z∧C z∧D z∧E z∧F z∧G z∧H z∧(Lit.int .i64 z.Int_).wf=true∧I z∧J z∧K z∧L z) {P2:Prop} (_:P2):m_limnographlaw17_ConvertGoes x0 x1 x2=some true:=by
 have main:Tot (λb=>b=true) (m_limnographlaw17_ConvertGoes x0 x1 x2):=by
  unfold m_limnographlaw17_ConvertGoes;rw [awake_eq,bndS,if_neg (by decide)]
  refine (some_tot x1 (n:=20) (by omega)).bind λb hb=>Tot.ite (λ_=>.some rfl) λh=>?_
  obtain ⟨hl,hf⟩:=hb (by cases b with|true=>rfl|false=>exact absurd rfl h);rw [cnew_eq]
  by_cases hg:(((((x0.Out≥0)∧(x0.Out≤2))∧(x0.Series≥1))∧(x0.Series≤16))∧(x0.Buckets≥1))∧(x0.Buckets≤160)
  ·have g:GoodC x0:=⟨by omega,by omega,by omega,by omega,by omega,by omega⟩
   have hp:∀ p∈x1,Few p∧okI p.Int_:=λp hp=>⟨hf p hp,by
    have:=(k1.2 p hp).2.2.2.2.2.2.2.1;have h2:(decide (IntKind.i64.min≤p.Int_)&&decide (p.Int_≤IntKind.i64.max))=true:=this;rw [Bool.and_eq_true,decide_eq_true_iff,decide_eq_true_iff] at h2
    exact h2⟩
   obtain ⟨F,hF⟩:=fuelS 100 (by omega);obtain ⟨a,ha⟩:∃ a:Nat,(a:Int)=min (max x2 0) (x1.length:Int):=⟨(min (max x2 0) (x1.length:Int)).toNat,by omega⟩
   have hal:a≤x1.length:=by omega
   rw [if_pos (decide_eq_true hg),bndS]
   refine Tot.ite (λh=>absurd h (by simp)) λ_=>?_
   have i0:InvG x0 ⟨x0,⟨max x0.Series 0,0,[]⟩⟩:=⟨rfl,by have:=g.s0;show max x0.Series 0=x0.Series;omega,by have:=g.s0;dsimp only [List.length_nil];omega,List.nodup_nil,λe he=>by cases he⟩;rw [jn_eq]
   obtain ⟨c,hc,e3⟩:=goesL3 g hp x2 ha (by omega) (λ(y18:(Option T_convert_Converter))=>
    ((y18).bind λz21=>
     (m_convert_Converter_Save z21).bind λp20=>
     (m_convert_Load x0 p20).bind λp27=>
     (m_convert_Converter_Clone z21).bind λp32=>
     if (((p27.1).isNone)=true)∨(p27.2≠0) then
     (some false)
     else
     (jn (λ(y41:T_convert_Converter) (y42:(Option T_convert_Converter))=>
      (jn (λ(y47:Bool)=>
       (if y47=true then
        (some false)
        else
        (jn (λ(y52:T_convert_Converter)=>
         ((m_convert_Converter_Save y52).bind λp57=>
          (m_convert_Converter_Save y41).bind λp62=>
          some (decide (p57=p62)))) λj4=>
         m_limnographlaw17_ConvertGoes_L1 x1 j4 fuel (min (max x2 0) (x1.length:Int)) p32))) λj3=>
       (m_convert_Converter_Save p32).bind λp114=>
       if p114≠p20 then
       (j3 true)
       else
       ((m_convert_Converter_Save y41).bind λp122=>
        (y42).bind λz128=>
        (m_convert_Converter_Save z128).bind λp127=>
        j3 (decide (p122≠p127))))) λj2=>
      m_limnographlaw17_ConvertGoes_L2 x1 j2 fuel (min (max x2 0) (x1.length:Int)) z21 p27.1))) a fuel 0 _ i0 (by omega) (by omega)
   refine ⟨true,?_,rfl⟩;refine Eq.trans e3 ?_;rw [bndS,Save_eq g hc,bndS];obtain ⟨b,lb,ib,rb⟩:=Load_eq g hc;have hcl:m_convert_Converter_Clone c=some c:=rfl;rw [lb,bndS,hcl,bndS,if_neg (by simp),jn_eq,← ha];dsimp only
   obtain ⟨b', g1, g2, g3, g4⟩ := goesL2 g hp (by omega) (λ(y41:T_convert_Converter) (y42:(Option T_convert_Converter)) =>
    (jn (λ(y47:Bool)=>
     (if y47=true then
      (some false)
      else
      (jn (λ(y52:T_convert_Converter)=>
       ((m_convert_Converter_Save y52).bind λp57=>
        (m_convert_Converter_Save y41).bind λp62=>
        some (decide (p57=p62)))) λj4=>
       m_limnographlaw17_ConvertGoes_L1 x1 j4 fuel (a:Int) c))) λj3=>
     (m_convert_Converter_Save c).bind λp114=>
     if p114≠saveB c.states.m then
     (j3 true)
     else
     ((m_convert_Converter_Save y41).bind λp122=>
      (y42).bind λz128=>
      (m_convert_Converter_Save z128).bind λp127=>
      j3 (decide (p122≠p127))))) (x1.length-a) fuel a c b hc ib rb (by omega) (by omega)
   refine Eq.trans g4 ?_;rw [jn_eq,Save_eq g hc,bndS,if_neg (by simp),Save_eq g g1,bndS,bndS,Save_eq g g2,bndS,Save_R g1 g2 g3];dsimp only;rw [show decide (saveB b'.states.m≠saveB b'.states.m)=false by simp,if_neg (by decide),jn_eq,goesL1 g hp (by omega) _ (x1.length-a) fuel a c hc (by omega) (by omega)];rw [Save_eq g g1,bndS,bndS,Save_R g1 g2 g3];simp
  ·rw [if_neg (by rw [decide_eq_false hg];decide),bndS]
   refine Tot.ite (λ_=>?_) λh=>absurd rfl h
   unfold m_limnographref17_Good;rw [bndS,decide_eq_false hg];exact .some rfl
 obtain ⟨r,h1,rfl⟩:=main;exact h1
end Go.Proofs.YtaikmpmokihciaaGreat
