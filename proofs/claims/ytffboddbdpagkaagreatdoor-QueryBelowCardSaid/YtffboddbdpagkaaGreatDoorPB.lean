import Derived.Test.YtffboddbdpagkaaGreatDoorNB
set_option maxRecDepth 20000
set_option linter.unusedVariables false
set_option linter.unusedSimpArgs false
namespace Go.Proofs.YtffboddbdpagkaaGreatDoor
open Go Go.RowKit Go.Wk
theorem pow64:(2:Nat)^64=18446744073709551616:=by decide
theorem ofNat_nat {n:Nat} (h:n<18446744073709551616):(UInt64.ofNat n).toNat=n:=by rw [UInt64.toNat_ofNat'];exact Nat.mod_eq_of_lt h
def sumN (l:List UInt64):Nat:=(l.map UInt64.toNat).sum
theorem sumN_cons (x:UInt64) (l:List UInt64):sumN (x::l)=x.toNat+sumN l:=by simp [sumN]
theorem or_zero (a b:UInt64):a|||b=0↔a=0∧b=0:=by
 constructor
 ·intro h
  have h1:(a|||b).toNat=0:=by rw [h];rfl
  rw [UInt64.toNat_or] at h1;have:=Nat.or_eq_zero_iff.1 h1;exact ⟨UInt64.toNat_inj.1 this.1,UInt64.toNat_inj.1 this.2⟩
 ·rintro ⟨rfl,rfl⟩;rfl
theorem tot_fold (l:List UInt64):∀ (a b:UInt64),((l.foldl (λ(s:UInt64×UInt64) x=>(s.1+x,s.2|||cry s.1 x)) (a,b)).1.toNat=(a.toNat+sumN l)%2^64) ∧
 ((l.foldl (λ(s:UInt64×UInt64) x=>(s.1+x,s.2|||cry s.1 x)) (a,b)).2=0↔b=0∧a.toNat+sumN l<2^64):=by
 induction l with
 | nil=>intro a b;have:=a.toNat_lt;simp [sumN];omega
 | cons x l ih=>
  intro a b;have ha:=a.toNat_lt;have hx:=x.toNat_lt;obtain ⟨h1,h2⟩:=ih (a+x) (b|||cry a x);rw [List.foldl_cons];dsimp only;rw [h1,h2,or_zero,sumN_cons];have e:(a+x).toNat=(a.toNat+x.toNat)%2^64:=UInt64.toNat_add a x
  constructor
  ·rw [e];omega
  ·unfold cry
   by_cases hc:18446744073709551616≤a.toNat+x.toNat
   ·rw [if_pos hc]
    constructor
    ·rintro ⟨⟨_,h⟩,_⟩;exact absurd h (by decide)
    ·rintro ⟨_,h⟩;omega
   ·rw [if_neg hc,e]
    constructor
    ·rintro ⟨⟨h,_⟩,k⟩;exact ⟨h,by omega⟩
    ·rintro ⟨h,k⟩;exact ⟨⟨h,rfl⟩,by omega⟩
def totN (h:T_api_Hist):Nat:=h.Zero.toNat+sumN h.Pos.Counts+sumN h.Neg.Counts
def totE (h:T_api_Hist):UInt64×Bool:=if totN h<2^64 then (UInt64.ofNat (totN h),true) else (0,false)
theorem Total_eq (h:T_api_Hist) (h1:h.Pos.Counts.length≤1000000) (h2:h.Neg.Counts.length≤1000000):m_hist_Total h=some (totE h):=by
 have hL2:∀ (z:T_api_Side) (j:UInt64→UInt64→Option (UInt64×Bool)) (a b:UInt64),z.Counts.length≤1000000→m_hist_Total_L2 z j fuel a b 0=j (z.Counts.foldl (λ(s:UInt64×UInt64) x=>(s.1+x,s.2|||cry s.1 x)) (a,b)).1 (z.Counts.foldl (λ(s:UInt64×UInt64) x=>(s.1+x,s.2|||cry s.1 x)) (a,b)).2:=by
  intro z j a b h;rw [m_hist_Total_L2_scan _ _ _ _ (by omega),scanL_fold (λ(s:UInt64×UInt64) x=>(s.1+x,s.2|||cry s.1 x)) (λi x s k _=>by rw [bndS])]
 unfold m_hist_Total m_hist_sides;rw [bndS,jn_eq];obtain ⟨m,hm⟩:=fuelS 3 (by omega)
 rw [show m_hist_Total_L1 { a0:=h.Pos,a1:=h.Neg } _ fuel _ _ _=m_hist_Total_L1 { a0:=h.Pos,a1:=h.Neg } _ (m+3) _ _ _ by rw [← hm],m_hist_Total_L1,if_pos (by omega),show idx [h.Pos,h.Neg] 0=some h.Pos from rfl,bndS,jn_eq,hL2 _ _ _ _ h1,W64_id (by omega) (by omega),show (0:Int)+1=1 from rfl,
  m_hist_Total_L1,if_pos (by omega),show idx [h.Pos,h.Neg] 1=some h.Neg from rfl,bndS,jn_eq,hL2 _ _ _ _ h2,W64_id (by omega) (by omega),show (1:Int)+1=2 from rfl,m_hist_Total_L1,if_neg (by omega)]
 obtain ⟨p1,p2⟩:=tot_fold h.Pos.Counts h.Zero 0;generalize h.Pos.Counts.foldl (λ(s:UInt64×UInt64) x=>(s.1+x,s.2|||cry s.1 x)) (h.Zero,0)=P at *;obtain ⟨q1,q2⟩:=tot_fold h.Neg.Counts P.1 P.2;generalize h.Neg.Counts.foldl (λ(s:UInt64×UInt64) x=>(s.1+x,s.2|||cry s.1 x)) (P.1,P.2)=Q at *;unfold totE totN
 by_cases hq:Q.2=0
 ·obtain ⟨a1,a2⟩:=q2.1 hq
  obtain ⟨_,a3⟩:=p2.1 a1;rw [if_neg (by rw [hq];decide),if_pos (by omega)]
  have:Q.1=UInt64.ofNat (h.Zero.toNat+sumN h.Pos.Counts+sumN h.Neg.Counts):=by
   apply UInt64.toNat_inj.1
   rw [q1,ofNat_nat (by omega)];omega
  rw [this]
 ·have hq':Q.2.toNat≠0:=λh=>hq (UInt64.toNat_inj.1 h)
  rw [if_pos (by omega),if_neg];intro h
  apply hq
  rw [q2];exact ⟨p2.2 ⟨rfl,by omega⟩,by omega⟩
def sdE (s:T_api_Side):Int:=
 if s.Counts.length>160 then 4
 else if s.Counts=[] then (if s.Offset≠0 then 3 else 0)
 else if s.Counts.headD 0=0∨s.Counts.getLastD 0=0 then 3
 else if s.Offset < -1073741824∨s.Offset+s.Counts.length-1>1073741824 then 1 else 0
theorem u64z' (x:UInt64):((x.toNat:Nat):Int)=0↔x=0:=by
 constructor
 ·intro h;apply UInt64.toNat_inj.1;show x.toNat=0;omega
 ·rintro rfl;rfl
theorem ends {l:List UInt64} (h:l≠[]) (hl:l.length≤1000000):idx l 0=some (l.headD 0)∧idx l (W64 ((l.length:Int)-1))=some (l.getLastD 0):=by
 have h0:0<l.length:=List.length_pos_iff.2 h
 constructor
 ·cases l with
  | nil=>exact absurd rfl h
  | cons a t=>rfl
 ·rw [W64_id (by omega) (by omega),show (l.length:Int)-1=((l.length-1:Nat):Int) by omega,idx_nat,← List.getLast?_eq_getElem?,List.getLast?_eq_some_getLast h]
  cases l with
  | nil=>exact absurd rfl h
  | cons a t=>rw [List.getLastD_cons,List.getLast_eq_getLastD]
theorem scheck_eq (s:T_api_Side):m_hist_check s=some (sdE s):=by
 unfold m_hist_check sdE
 by_cases h1:s.Counts.length>160
 ·rw [if_pos (by omega),if_pos h1]
 rw [if_neg (by omega),if_neg h1]
 by_cases h2:s.Counts=[]
 ·rw [if_pos h2,h2]
  by_cases h3:s.Offset≠0
  ·rw [if_pos ⟨rfl,h3⟩,if_pos h3]
  ·rw [if_neg (λh=>h3 h.2),if_pos (by rfl),if_neg h3]
 have h0:0<s.Counts.length:=List.length_pos_iff.2 h2;obtain ⟨e1,e2⟩:=ends h2 (by omega);rw [if_neg (by omega),if_neg (by omega),if_neg h2,e1,bndS];simp only [jn_eq]
 by_cases h3:s.Counts.headD 0=0
 ·rw [if_pos ((u64z' _).2 h3),if_pos (by trivial),if_pos (Or.inl h3)]
 rw [if_neg (λh=>h3 ((u64z' _).1 h)),e2,bndS]
 by_cases h4:s.Counts.getLastD 0=0
 ·rw [if_pos (decide_eq_true ((u64z' _).2 h4)),if_pos (Or.inr h4)]
 rw [if_neg (by rw [decide_eq_false (λh=>h4 ((u64z' _).1 h))];decide),if_neg (show ¬(s.Counts.headD 0=0∨s.Counts.getLastD 0=0) from λh=>h.elim h3 h4),W64_id (z:=(s.Counts.length:Int)-1) (by omega) (by omega),W64_id (by omega) (by omega)]
 by_cases h5:s.Offset < -1073741824
 ·rw [if_pos h5,if_pos (by trivial),if_pos (Or.inl h5)]
 rw [if_neg h5]
 by_cases h6:s.Offset>1073741824-((s.Counts.length:Int)-1)
 ·rw [if_pos (decide_eq_true h6),if_pos (by omega)]
 ·rw [if_neg (by rw [decide_eq_false h6];decide),if_neg (by omega)]
def hcE (h:T_api_Hist):Int:=
 if h.Scale < -10∨h.Scale>20 then 1 else if sdE h.Pos≠0 then sdE h.Pos else if sdE h.Neg≠0 then sdE h.Neg else if totN h<2^64 then 0 else 4
theorem HCheck_eq (h:T_api_Hist) (h1:h.Pos.Counts.length≤1000000) (h2:h.Neg.Counts.length≤1000000):m_hist_Check h=some (hcE h):=by
 unfold m_hist_Check m_hist_sides hcE
 by_cases hs:h.Scale < -10∨h.Scale>20
 ·rw [if_pos hs,if_pos hs]
 rw [if_neg hs,if_neg hs,bndS,jn_eq];obtain ⟨m,hm⟩:=fuelS 3 (by omega);rw [hm,m_hist_Check_L1,if_pos (by omega),show idx [h.Pos,h.Neg] 0=some h.Pos from rfl,bndS,scheck_eq,bndS]
 by_cases c1:sdE h.Pos≠0
 ·rw [if_pos c1,if_pos c1]
 rw [if_neg c1,if_neg c1,W64_id (by omega) (by omega),show (0:Int)+1=1 from rfl,m_hist_Check_L1,if_pos (by omega),show idx [h.Pos,h.Neg] 1=some h.Neg from rfl,bndS,scheck_eq,bndS]
 by_cases c2:sdE h.Neg≠0
 ·rw [if_pos c2,if_pos c2]
 rw [if_neg c2,if_neg c2,W64_id (by omega) (by omega),show (1:Int)+1=2 from rfl,m_hist_Check_L1,if_neg (by omega),Total_eq h h1 h2,bndS];unfold totE
 by_cases ht:totN h<2^64
 ·rw [if_pos ht,if_pos ht,if_neg (by simp)]
 ·rw [if_neg ht,if_neg ht,if_pos (by simp)]
end Go.Proofs.YtffboddbdpagkaaGreatDoor
set_option linter.unusedVariables false
set_option linter.unusedSimpArgs false
namespace Go.Proofs.YtffboddbdpagkaaGreatDoor
open Go Go.RowKit Go.Wk
abbrev Bk:=T_api_Bucket
abbrev Stp:=T_limnographref37_Step
abbrev Hs:=T_api_Hist
def bkt (sd off:Int) (i:Nat):Bk:=⟨sd,W64 (off+(i:Int))⟩
def sideS (sd off:Int):Nat→List UInt64→List Stp
 | _,[]=>[]
 | i,c::l=>⟨bkt sd off i,c⟩::sideS sd off (i+1) l
theorem sideS_snoc (sd off:Int) (c:UInt64):∀ (i:Nat) (l:List UInt64),sideS sd off i (l++[c])=sideS sd off i l++[⟨bkt sd off (i+l.length),c⟩]
 | i,[]=>rfl
 | i,x::l=>by
  rw [List.cons_append,sideS,sideS_snoc sd off c (i+1) l,sideS,List.cons_append,List.length_cons]
  have e:i+1+l.length=i+(l.length+1):=by omega
  rw [e]
theorem sideS_len (sd off:Int):∀ (i:Nat) (l:List UInt64),(sideS sd off i l).length=l.length
 | _,[]=>rfl
 | i,c::l=>by rw [sideS,List.length_cons,sideS_len sd off (i+1) l,List.length_cons]
def negS (h:Hs):List Stp:=(sideS (-1) h.Neg.Offset 0 h.Neg.Counts).reverse
def zerS (h:Hs):Stp:=⟨⟨0,0⟩,h.Zero⟩
def posS (h:Hs):List Stp:=sideS 1 h.Pos.Offset 0 h.Pos.Counts
def stp (h:Hs):List Stp:=negS h++zerS h::posS h
theorem stp_len (h:Hs):(stp h).length=h.Neg.Counts.length+1+h.Pos.Counts.length:=by
 unfold stp negS posS;simp [sideS_len];omega
theorem down_loop {R:Type} {S:Type} (L:Nat→Int→S→Option R) (J:S→Option R) (l:List UInt64) (hl:l.length≤1000000) (F:Nat→UInt64→S→(S→Option R)→Option R)
 (h0:∀ n y s,y<0→L (n+1) y s=J s) (h1:∀ n (i:Nat) (x:UInt64) s,l[i]?=some x→L (n+1) (i:Int) s=F i x s (λs'=>L n ((i:Int)-1) s')) (G:List UInt64→S→Option R)
 (g0:∀ s,J s=G [] s) (g1:∀ (p:List UInt64) (x:UInt64) s k,(∃ q,l=p++x::q)→(∀ s',k s'=G p s')→F p.length x s k=G (p++[x]) s) (s:S):L fuel (W64 ((l.length:Int)-1)) s=G l s:=by
 have key:∀ (m n:Nat) (p q:List UInt64) (s:S),p.length=m→l=p++q→m<n→L n ((m:Int)-1) s=G p s:=by
  intro m
  induction m with
  | zero=>
   intro n p q s hp hl hn;obtain ⟨n,rfl⟩:∃ k,n=k+1:=⟨n-1,by omega⟩;have:p=[]:=List.eq_nil_of_length_eq_zero hp;subst this;rw [h0 n _ s (by omega),g0]
  | succ m ih=>
   intro n p q s hp hl hn;obtain ⟨n,rfl⟩:∃ k,n=k+1:=⟨n-1,by omega⟩
   rcases List.eq_nil_or_concat p with rfl|⟨p',x,rfl⟩
   ·simp at hp
   ·rw [List.concat_eq_append] at hp hl ⊢
    have hp':p'.length=m:=by simp at hp;omega
    have e:((m+1:Nat):Int)-1=(m:Int):=by omega
    have hx:l[m]?=some x:=by rw [hl,← hp'];simp
    rw [e,h1 n m x s hx,← hp']
    refine g1 p' x s _ ⟨q,by rw [hl];simp⟩ λs'=>?_
    rw [hp'];exact ih n p' (x::q) s' hp' (by rw [hl];simp) (by omega)
 rw [W64_id (by omega) (by omega)];exact key l.length fuel l [] s rfl (by simp) (by unfold fuel;omega)
theorem steps_eq (h:Hs) (h1:h.Pos.Counts.length≤1000000) (h2:h.Neg.Counts.length≤1000000):m_limnographref37_Steps h=some (stp h):=by
 unfold m_limnographref37_Steps;rw [jn_eq]
 refine (down_loop (λn y s=>m_limnographref37_Steps_L2 h (λy10=>(appL y10 [(⟨(⟨0,0⟩:T_api_Bucket),h.Zero⟩:T_limnographref37_Step)]).bind λz14=>
  jn (λ(y16:(List T_limnographref37_Step))=>
   (some y16)) λj2=>
  m_limnographref37_Steps_L1 h j2 fuel z14 0) n s y) (λy10=>(appL y10 [zerS h]).bind λz14=>m_limnographref37_Steps_L1 h (λy=>some y) fuel z14 0) h.Neg.Counts h2 (λi x s k=>(appL s [(⟨bkt (-1) h.Neg.Offset i,x⟩:Stp)]).bind k) ?_ ?_
  (λp s=>if s.length+p.length+1+h.Pos.Counts.length≤1073741824 then some (s++(sideS (-1) h.Neg.Offset 0 p).reverse++zerS h::posS h) else (appL (s++(sideS (-1) h.Neg.Offset 0 p).reverse) [zerS h]).bind λz14=>m_limnographref37_Steps_L1 h (λy=>some y) fuel z14 0) ?_ ?_ []).trans ?_
 ·intro n y s hy
  rw [m_limnographref37_Steps_L2,if_neg (by omega)];simp only [jn_eq];rfl
 ·intro n i x s hx
  have hi:=(List.getElem?_eq_some_iff.1 hx).1;rw [m_limnographref37_Steps_L2,if_pos (by omega),idx_nat,hx,bndS,W64_id (z:=(i:Int)-1) (by omega) (by omega)]
  rfl
 ·intro s
  by_cases hs:s.length+([]:List UInt64).length+1+h.Pos.Counts.length≤1073741824
  ·rw [if_pos hs,app_some (by simp at hs ⊢;omega),bndS,m_limnographref37_Steps_L1_scan _ _ _ (by omega)]
   refine (scanL_inv (λ(p:List UInt64) (t:List Stp)=>t=s++[zerS h]++sideS 1 h.Pos.Offset 0 p) (λ_ _ _=>some (s++zerS h::posS h)) (by simp [sideS]) (λt ht=>by rw [ht];simp [posS]) ?_).trans (by simp [sideS]);rintro p x q t k hp rfl hk
   have hpl:p.length+q.length+1=h.Pos.Counts.length:=by have:=congrArg List.length hp;simp at this;omega
   rw [bndS,app_some (by simp [sideS_len] at hs ⊢;omega),bndS];refine hk _ ?_;rw [sideS_snoc,Nat.zero_add,List.append_assoc _ _ [_]]
   rfl
  ·rw [if_neg hs];simp [sideS]
 ·rintro p x s k ⟨q,hq⟩ hk
  have hl:h.Neg.Counts.length=p.length+(q.length+1):=by rw [hq];simp
  by_cases hs:s.length+1≤1073741824
  ·rw [app_some (by simpa using hs),bndS,hk]
   have e1:(s++[(⟨bkt (-1) h.Neg.Offset p.length,x⟩:Stp)]).length+p.length+1+h.Pos.Counts.length=s.length+(p++[x]).length+1+h.Pos.Counts.length:=by simp;omega
   have e2:s++[(⟨bkt (-1) h.Neg.Offset p.length,x⟩:Stp)]++(sideS (-1) h.Neg.Offset 0 p).reverse=s++(sideS (-1) h.Neg.Offset 0 (p++[x])).reverse:=by
    rw [sideS_snoc,Nat.zero_add];simp
   rw [e1,e2]
  ·have e1:appL s [(⟨bkt (-1) h.Neg.Offset p.length,x⟩:Stp)]=none:=by unfold appL;rw [if_neg (by simpa using hs)]
   have e2:appL (s++(sideS (-1) h.Neg.Offset 0 (p++[x])).reverse) [zerS h]=none:=by unfold appL;rw [if_neg (by simp [sideS_len];omega)]
   rw [e1,if_neg (by simp;omega),e2];rfl
 ·rw [if_pos (by simp;omega)]
  simp [stp,negS]
def aheadB (a b:Bk):Bool:=if a.Side≠b.Side then decide (a.Side<b.Side) else if a.Side<0 then decide (a.Index>b.Index) else decide (a.Index<b.Index)
theorem ahead_eq (a b:Bk):m_query_ahead a b=some (aheadB a b):=by
 unfold m_query_ahead aheadB
 by_cases h1:a.Side≠b.Side
 ·rw [if_pos h1,if_pos h1]
 ·rw [if_neg h1,if_neg h1]
  by_cases h2:a.Side<0
  ·rw [if_pos h2,if_pos h2]
  ·rw [if_neg h2,if_neg h2]
def belF (b:Bk) (s:UInt64) (x:Stp):UInt64:=if aheadB x.B b=true then s+x.N else s
def bel (b:Bk) (s:UInt64) (l:List Stp):UInt64:=l.foldl (belF b) s
def badB (b:Bk):Prop:=b.Side < -1∨b.Side>1∨(b.Side=0∧b.Index≠0)
instance (b:Bk):Decidable (badB b):=by unfold badB;infer_instance
theorem below_eq (h:Hs) (h1:h.Pos.Counts.length≤1000000) (h2:h.Neg.Counts.length≤1000000) (b:Bk):m_query_Below h b=some (if hcE h≠0∨badB b then 0 else bel b 0 (stp h)):=by
 unfold m_query_Below;rw [HCheck_eq h h1 h2,bndS]
 by_cases hb:hcE h≠0∨badB b
 ·rw [if_pos hb,if_pos (by unfold badB at hb;rcases hb with h | h | h | h;exact .inl (.inl (.inl h));exact .inl (.inl (.inr h));exact .inl (.inr h);exact .inr h)]
 ·rw [if_neg hb,if_neg (by unfold badB at hb;rintro (((h | h) | h) | h);exact hb (.inl h);exact hb (.inr (.inl h));exact hb (.inr (.inr (.inl h)));exact hb (.inr (.inr (.inr h))))]
  rw [jn_eq,jn_eq]
  have pos:∀ s:UInt64,m_query_Below_L1 h b (λy27=>some y27) (λy48=>some y48) fuel 0 s=some (bel b s (posS h)):=by
   intro s;rw [m_query_Below_L1_scan _ _ _ _ _ (by omega)];refine scanL_inv (λ(p:List UInt64) (t:UInt64)=>t=bel b s (sideS 1 h.Pos.Offset 0 p)) (λ_ _ _=>some (bel b s (posS h))) rfl (λt ht=>by rw [ht];rfl) ?_;rintro p x q t k hp rfl hk;simp only [bndS,jn_eq,ahead_eq,Bool.not_true,Bool.false_eq_true,if_false]
   have e:bel b s (sideS 1 h.Pos.Offset 0 (p++[x]))=belF b (bel b s (sideS 1 h.Pos.Offset 0 p)) ⟨bkt 1 h.Pos.Offset p.length,x⟩:=by
    unfold bel;rw [sideS_snoc,Nat.zero_add,List.foldl_append];rfl
   cases ha:aheadB ⟨1,W64 (h.Pos.Offset+(p.length:Int))⟩ b with
   | true=>rw [if_pos rfl];refine hk _ ?_;rw [e];unfold belF bkt;dsimp only;rw [if_pos ha]
   | false=>rw [if_neg (by decide)];refine hk _ ?_;rw [e];unfold belF bkt;dsimp only;rw [ha,if_neg (by decide)]
  refine (down_loop (λn y s=>m_query_Below_L2 h b (λy27=>some y27) (λ(y32:UInt64)=>
   (jn (λ(y34:Bool) (y35:UInt64)=>
    (if (!y34)=true then
     ((λy27=>some y27) y35)
     else
     (jn (λ(y48:UInt64)=>
      ((λy27=>some y27) y48)) λj5=>
      m_query_Below_L1 h b (λy27=>some y27) j5 fuel 0 y35))) λj3=>
    (m_query_ahead (⟨0,0⟩:T_api_Bucket) b).bind λp40=>
    jn (λ(y42:UInt64)=>
     (j3 true y42)) λj4=>
    if p40=true then
    (j4 (y32+h.Zero))
    else
    (j4 y32))) n y s) (λs=>some (bel b s (zerS h::posS h))) h.Neg.Counts h2 (λi x s k=>k (belF b s ⟨bkt (-1) h.Neg.Offset i,x⟩)) ?_ ?_ (λp s=>some (bel b s ((sideS (-1) h.Neg.Offset 0 p).reverse++zerS h::posS h))) ?_ ?_ 0).trans ?_
  ·intro n y s hy
   dsimp only;rw [m_query_Below_L2,if_neg (by omega)];simp only [jn_eq,ahead_eq,bndS,Bool.not_true,Bool.false_eq_true,if_false,pos];have e:bel b s (zerS h::posS h)=bel b (belF b s (zerS h)) (posS h):=rfl;rw [e];unfold belF zerS;dsimp only
   cases ha:aheadB ⟨0,0⟩ b with
   | true=>rw [if_pos rfl,if_pos rfl]
   | false=>rw [if_neg (by decide),if_neg (by decide)]
  ·intro n i x s hx
   have hi:=(List.getElem?_eq_some_iff.1 hx).1;dsimp only;rw [m_query_Below_L2,if_pos (by omega),idx_nat,hx,bndS,W64_id (z:=(i:Int)-1) (by omega) (by omega)];rw [jn_eq,ahead_eq,bndS,jn_eq];unfold belF bkt;dsimp only
   cases ha:aheadB ⟨-1,W64 (h.Neg.Offset+(i:Int))⟩ b with
   | true=>rw [if_pos rfl,if_pos rfl,if_neg (by decide)]
   | false=>rw [if_neg (by decide),if_neg (by decide),if_neg (by decide)]
  ·intro s;rfl
  ·rintro p x s k _ hk
   rw [hk,sideS_snoc,Nat.zero_add];simp [bel]
  ·rfl
end Go.Proofs.YtffboddbdpagkaaGreatDoor
set_option linter.unusedVariables false
set_option linter.unusedSimpArgs false
namespace Go.Proofs.YtffboddbdpagkaaGreatDoor
open Go Go.RowKit Go.Wk
theorem side_ok {s:T_api_Side} (h:sdE s=0):∀ i:Nat,i<s.Counts.length→s.Counts.length≤160∧-1073741824≤s.Offset∧s.Offset+(i:Int)≤1073741824:=by
 intro i hi;unfold sdE at h
 by_cases h1:s.Counts.length>160
 ·rw [if_pos h1] at h;exact absurd h (by decide)
 rw [if_neg h1] at h
 have h2:s.Counts≠[]:=by intro e;rw [e] at hi;simp at hi
 rw [if_neg h2] at h
 by_cases h3:s.Counts.headD 0=0∨s.Counts.getLastD 0=0
 ·rw [if_pos h3] at h;exact absurd h (by decide)
 rw [if_neg h3] at h
 by_cases h4:s.Offset < -1073741824∨s.Offset+s.Counts.length-1>1073741824
 ·rw [if_pos h4] at h;exact absurd h (by decide)
 omega
theorem hc_ok {h:Hs} (e:hcE h=0):sdE h.Pos=0∧sdE h.Neg=0∧totN h<2^64:=by
 unfold hcE at e
 by_cases h1:h.Scale < -10∨h.Scale>20
 ·rw [if_pos h1] at e;exact absurd e (by decide)
 rw [if_neg h1] at e
 by_cases h2:sdE h.Pos≠0
 ·rw [if_pos h2] at e;exact absurd e h2
 rw [if_neg h2] at e
 by_cases h3:sdE h.Neg≠0
 ·rw [if_pos h3] at e;exact absurd e h3
 rw [if_neg h3] at e
 by_cases h4:totN h<2^64
 ·exact ⟨Decidable.not_not.1 h2,Decidable.not_not.1 h3,h4⟩
 ·rw [if_neg h4] at e;exact absurd e (by decide)
def sm (l:List Stp):Nat:=(l.map λx=>x.N.toNat).sum
theorem sm_nil:sm []=0:=rfl
theorem sm_cons (x:Stp) (l:List Stp):sm (x::l)=x.N.toNat+sm l:=by simp [sm]
theorem sm_append (a b:List Stp):sm (a++b)=sm a+sm b:=by simp [sm]
theorem sm_rev (a:List Stp):sm a.reverse=sm a:=by
 induction a with
 | nil=>rfl
 | cons x a ih=>rw [List.reverse_cons,sm_append,ih,sm_cons,sm_cons,sm_nil];omega
theorem sm_side (sd off:Int):∀ (i:Nat) (l:List UInt64),sm (sideS sd off i l)=sumN l
 | _,[]=>rfl
 | i,c::l=>by rw [sideS,sm_cons,sm_side sd off (i+1) l,sumN_cons]
theorem sm_stp (h:Hs):sm (stp h)=totN h:=by
 unfold stp negS posS zerS totN;rw [sm_append,sm_rev,sm_side,sm_cons,sm_side];dsimp only
 omega
theorem side_mem (sd off:Int) (x:Stp):∀ (i:Nat) (l:List UInt64),x∈sideS sd off i l→∃ j,j<l.length∧l[j]?=some x.N∧x.B=bkt sd off (i+j)
 | _,[],h=>by simp [sideS] at h
 | i,c::l,h=>by
  rw [sideS,List.mem_cons] at h
  rcases h with rfl|h
  ·exact ⟨0,by simp,rfl,rfl⟩
  ·obtain ⟨j,h1,h2,h3⟩:=side_mem sd off x (i+1) l h
   refine ⟨j+1,by simpa using h1,by simpa using h2,?_⟩;rw [h3,show i+1+j=i+(j+1) by omega]
def lt (a b:Stp):Prop:=aheadB a.B b.B=true∧aheadB b.B a.B=false
theorem bkt_lt {sd off:Int} {i j:Nat} (h0:-1073741824≤off) (h1:off+(j:Int)≤1073741824) (hij:i<j):(0≤sd→aheadB (bkt sd off i) (bkt sd off j)=true∧aheadB (bkt sd off j) (bkt sd off i)=false)∧(sd<0→aheadB (bkt sd off j) (bkt sd off i)=true∧aheadB (bkt sd off i) (bkt sd off j)=false):=by
 unfold aheadB bkt;dsimp only
 have hs:¬(sd≠sd):=λh=>h rfl
 rw [W64_id (z:=off+(i:Int)) (by omega) (by omega),W64_id (z:=off+(j:Int)) (by omega) (by omega)];simp only [if_neg hs]
 constructor
 ·intro h
  rw [if_neg (by omega),if_neg (by omega)];exact ⟨decide_eq_true (by omega),decide_eq_false (by omega)⟩
 ·intro h
  rw [if_pos h,if_pos h];exact ⟨decide_eq_true (by omega),decide_eq_false (by omega)⟩
theorem side_pair {sd off:Int} (h0:-1073741824≤off):∀ (i:Nat) (l:List UInt64),(∀ j:Nat,j<i+l.length→off+(j:Int)≤1073741824)→(0≤sd→(sideS sd off i l).Pairwise lt)∧(sd<0→(sideS sd off i l).Pairwise λa b=>lt b a)
 | _,[],_=>⟨λ_=>.nil,λ_=>.nil⟩
 | i,c::l,hb=>by
  obtain ⟨r1,r2⟩:=side_pair (sd:=sd) h0 (i+1) l (λj hj=>hb j (by rw [List.length_cons];omega))
  have key:∀ y∈sideS sd off (i+1) l,(0≤sd→lt ⟨bkt sd off i,c⟩ y)∧(sd<0→lt y ⟨bkt sd off i,c⟩):=λy hy=>by
   obtain ⟨j,h1,_,h3⟩:=side_mem sd off y (i+1) l hy;have:=bkt_lt (sd:=sd) (i:=i) (j:=i+1+j) h0 (hb _ (by rw [List.length_cons];omega)) (by omega);unfold lt;rw [h3];exact this
  exact ⟨λh=>.cons (λy hy=>(key y hy).1 h) (r1 h),λh=>.cons (λy hy=>(key y hy).2 h) (r2 h)⟩
theorem ahead_sd {a b:Bk} (h:a.Side<b.Side):aheadB a b=true∧aheadB b a=false:=by
 unfold aheadB;rw [if_pos (show a.Side≠b.Side by omega),if_pos (show b.Side≠a.Side by omega)];exact ⟨decide_eq_true h,decide_eq_false (by omega)⟩
theorem ahead_self (b:Bk):aheadB b b=false:=by
 unfold aheadB;rw [if_neg (λh=>h rfl)]
 split<;>exact decide_eq_false (by omega)
theorem negS_mem {h:Hs} {x:Stp} (hx:x∈negS h):∃ j,j<h.Neg.Counts.length∧h.Neg.Counts[j]?=some x.N∧x.B=bkt (-1) h.Neg.Offset j:=by
 obtain ⟨j,h1,h2,h3⟩:=side_mem _ _ _ _ _ (List.mem_reverse.1 hx);exact ⟨j,h1,h2,by rw [h3,Nat.zero_add]⟩
theorem posS_mem {h:Hs} {x:Stp} (hx:x∈posS h):∃ j,j<h.Pos.Counts.length∧h.Pos.Counts[j]?=some x.N∧x.B=bkt 1 h.Pos.Offset j:=by
 obtain ⟨j,h1,h2,h3⟩:=side_mem _ _ _ _ _ hx;exact ⟨j,h1,h2,by rw [h3,Nat.zero_add]⟩
theorem stp_pair {h:Hs} (e:hcE h=0):(stp h).Pairwise lt:=by
 obtain ⟨e1,e2,_⟩:=hc_ok e
 have hN:∀ {s:T_api_Side},sdE s=0→∀ sd:Int,(0≤sd→(sideS sd s.Offset 0 s.Counts).Pairwise lt)∧(sd<0→(sideS sd s.Offset 0 s.Counts).Pairwise λa b=>lt b a):=by
  intro s hs sd
  by_cases hl:s.Counts=[]
  ·rw [hl];exact ⟨λ_=>.nil,λ_=>.nil⟩
  ·have h0:=side_ok hs 0 (List.length_pos_iff.2 hl)
   exact side_pair h0.2.1 0 s.Counts (λj hj=>(side_ok hs j (by omega)).2.2)
 unfold stp;refine List.pairwise_append.2 ⟨?_,.cons ?_ ((hN e1 1).1 (by decide)),?_⟩
 ·exact List.pairwise_reverse.2 ((hN e2 (-1)).2 (by decide))
 ·intro y hy
  obtain ⟨j,_,_,h3⟩:=posS_mem hy;exact ahead_sd (by rw [h3];show (0:Int)<1;decide)
 ·intro x hx y hy
  obtain ⟨j,_,_,h3⟩:=negS_mem hx
  rcases List.mem_cons.1 hy with rfl|hy
  ·exact ahead_sd (by rw [h3];show (-1:Int)<0;decide)
  ·obtain ⟨k,_,_,h4⟩:=posS_mem hy
   exact ahead_sd (by rw [h3,h4];show (-1:Int)<1;decide)
theorem stp_mem {h:Hs} {x:Stp} (hx:x∈stp h):(x.B.Side=-1∧∃ j,j<h.Neg.Counts.length∧h.Neg.Counts[j]?=some x.N∧x.B.Index=W64 (h.Neg.Offset+(j:Int)))∨x=zerS h∨(x.B.Side=1∧∃ j,j<h.Pos.Counts.length∧h.Pos.Counts[j]?=some x.N∧x.B.Index=W64 (h.Pos.Offset+(j:Int))):=by
 rcases List.mem_append.1 hx with hx|hx
 ·obtain ⟨j,h1,h2,h3⟩:=negS_mem hx
  exact .inl ⟨by rw [h3];rfl,j,h1,h2,by rw [h3];rfl⟩
 ·rcases List.mem_cons.1 hx with hx | hx
  ·exact .inr (.inl hx)
  ·obtain ⟨j,h1,h2,h3⟩:=posS_mem hx
   exact .inr (.inr ⟨by rw [h3];rfl,j,h1,h2,by rw [h3];rfl⟩)
theorem bel_all (b:Bk):∀ (l:List Stp) (s:UInt64),(∀ x∈l,aheadB x.B b=true)→s.toNat+sm l<2^64→(bel b s l).toNat=s.toNat+sm l
 | [],s,_,_=>rfl
 | x::l,s,h,hs=>by
  rw [sm_cons] at hs ⊢
  have e:bel b s (x::l)=bel b (s+x.N) l:=by
   show bel b (belF b s x) l=_;unfold belF;rw [if_pos (h x (List.mem_cons_self ..))]
  have e2:(s+x.N).toNat=s.toNat+x.N.toNat:=by rw [UInt64.toNat_add];exact Nat.mod_eq_of_lt (by omega)
  rw [e,bel_all b l _ (λy hy=>h y (List.mem_cons_of_mem _ hy)) (by omega)]
  omega
theorem bel_none (b:Bk):∀ (l:List Stp) (s:UInt64),(∀ x∈l,aheadB x.B b=false)→bel b s l=s
 | [],s,_=>rfl
 | x::l,s,h=>by
  have e:bel b s (x::l)=bel b s l:=by
   show bel b (belF b s x) l=_;unfold belF;rw [h x (List.mem_cons_self ..),if_neg (by decide)]
  rw [e,bel_none b l s (λy hy=>h y (List.mem_cons_of_mem _ hy))]
theorem bel_at {A:List Stp} {x:Stp} {C:List Stp} (hp:(A++x::C).Pairwise lt) (hs:sm (A++x::C)<2^64):(bel x.B 0 (A++x::C)).toNat=sm A:=by
 obtain ⟨_,p2,p3⟩:=List.pairwise_append.1 hp
 have e:bel x.B 0 (A++x::C)=bel x.B (bel x.B 0 A) (x::C):=by unfold bel;rw [List.foldl_append]
 rw [sm_append] at hs;rw [e,bel_none,bel_all]
 ·show 0+sm A=sm A;omega
 ·intro y hy;exact (p3 y hy x (List.mem_cons_self ..)).1
 ·show 0+sm A<_;omega
 ·intro y hy
  rcases List.mem_cons.1 hy with rfl|hy
  ·exact ahead_self _
  ·exact ((List.pairwise_cons.1 p2).1 y hy).2
def nthF (d:Bk):List Stp→UInt64→Bk
 | [],_=>d
 | x::l,n=>if n.toNat≤x.N.toNat then x.B else nthF d l (n-x.N)
theorem nthF_spec (d:Bk):∀ (l:List Stp) (n:UInt64),0<n.toNat→n.toNat≤sm l→∃ A x C,l=A++x::C∧nthF d l n=x.B∧sm A<n.toNat∧n.toNat≤sm A+x.N.toNat
 | [],n,h0,h1=>by rw [sm_nil] at h1;omega
 | x::l,n,h0,h1=>by
  unfold nthF
  by_cases h:n.toNat≤x.N.toNat
  ·rw [if_pos h]
   exact ⟨[],x,l,rfl,rfl,h0,by rw [sm_nil];omega⟩
  ·rw [if_neg h]
   rw [sm_cons] at h1;have e:(n-x.N).toNat=n.toNat-x.N.toNat:=UInt64.toNat_sub_of_le _ _ (UInt64.le_iff_toNat_le.2 (by omega));obtain ⟨A,y,C,e1,e2,e3,e4⟩:=nthF_spec d l (n-x.N) (by omega) (by omega);refine ⟨x::A,y,C,by rw [e1];rfl,e2,?_,?_⟩
   ·rw [sm_cons];omega
   ·rw [sm_cons];omega
def nthE (h:Hs) (n:UInt64):Bk×Bool:=if hcE h≠0∨n.toNat=0∨n.toNat>totN h then (⟨0,0⟩,false) else (nthF ⟨0,0⟩ (stp h) n,true)
theorem nth_eq (h:Hs) (h1:h.Pos.Counts.length≤1000000) (h2:h.Neg.Counts.length≤1000000) (n:UInt64):m_query_Nth h n=some (nthE h n):=by
 unfold m_query_Nth nthE;rw [Total_eq h h1 h2,bndS,HCheck_eq h h1 h2,bndS]
 by_cases hb:hcE h≠0
 ·rw [if_pos (.inl (.inl (.inl hb))),if_pos (.inl hb)]
 have hb':hcE h=0:=Decidable.not_not.1 hb;have ht:=(hc_ok hb').2.2
 have et:totE h=(UInt64.ofNat (totN h),true):=by unfold totE;rw [if_pos ht]
 have en:(UInt64.ofNat (totN h)).toNat=totN h:=ofNat_nat (by rw [← pow64];exact ht);rw [et];dsimp only;rw [en];simp only [Bool.not_true,Bool.false_eq_true,or_false]
 by_cases hc:n.toNat=0∨n.toNat>totN h
 ·rw [if_pos (by omega),if_pos (by omega)]
 rw [if_neg (by omega),if_neg (by omega)];simp only [jn_eq]
 have pos:∀ (s:UInt64) (d:Bk),m_query_Nth_L1 h (λy=>some (y,true)) (λy=>some (y,true)) fuel 0 s d=some (nthF d (posS h) s,true):=by
  intro s d;rw [m_query_Nth_L1_scan _ _ _ _ _ (by omega)];refine scanL_inv (λ(p:List UInt64) (t:UInt64×Bk)=>t.2=d∧nthF d (sideS 1 h.Pos.Offset p.length (h.Pos.Counts.drop p.length)) t.1=nthF d (posS h) s) (λp q t=>some (nthF d (posS h) s,true)) ⟨rfl,rfl⟩ ?_ ?_
  ·rintro ⟨t,d'⟩ ⟨rfl,ht⟩
   rw [← ht];simp [sideS,nthF]
  ·rintro p x q ⟨t,d'⟩ k hp ⟨rfl,ht⟩ hk
   dsimp only at ht ⊢;simp only [bndS,jn_eq,Bool.not_true,Bool.not_false,Bool.false_eq_true,if_true,if_false]
   have hd:h.Pos.Counts.drop p.length=x::q:=by rw [← hp];simp
   have hd2:h.Pos.Counts.drop (p++[x]).length=q:=by rw [← hp];simp
   rw [hd,sideS,nthF] at ht
   by_cases hx:t.toNat≤x.toNat
   ·rw [if_pos hx] at ht
    rw [if_pos (by omega),← ht];rfl
   ·rw [if_neg hx] at ht
    rw [if_neg (by omega)];refine hk _ ⟨rfl,?_⟩;rw [hd2,← ht,List.length_append];rfl
 refine (down_loop (λn y (s:UInt64×Bk) => m_query_Nth_L2 h (λy => some (y, true)) (λ(y37:UInt64) (y38:T_api_Bucket) =>
  if ((h.Zero).toNat:Int)≥((y37).toNat:Int) then
  some ((⟨0,0⟩:T_api_Bucket),true)
  else
  m_query_Nth_L1 h (λy=>some (y,true)) (λy=>some (y,true)) fuel 0 (y37-h.Zero) y38) n y s.1 s.2) (λs=>some (nthF s.2 (zerS h::posS h) s.1,true)) h.Neg.Counts h2
  (λi x s k=>if s.1.toNat≤x.toNat then some (bkt (-1) h.Neg.Offset i,true) else k (s.1-x,s.2)) ?_ ?_ (λp s=>some (nthF s.2 ((sideS (-1) h.Neg.Offset 0 p).reverse++zerS h::posS h) s.1,true)) ?_ ?_ (n,⟨0,0⟩)).trans ?_
 ·rintro n y ⟨s,d⟩ hy
  dsimp only;rw [m_query_Nth_L2,if_neg (by omega)];unfold nthF zerS;dsimp only
  by_cases hx:s.toNat≤h.Zero.toNat
  ·rw [if_pos (by omega),if_pos hx]
  ·rw [if_neg (by omega),if_neg hx,pos]
 ·rintro n i x ⟨s,d⟩ hx
  have hi:=(List.getElem?_eq_some_iff.1 hx).1;dsimp only;rw [m_query_Nth_L2,if_pos (by omega),idx_nat,hx,bndS,W64_id (z:=(i:Int)-1) (by omega) (by omega)];simp only [jn_eq,Bool.not_true,Bool.not_false,Bool.false_eq_true,if_true,if_false]
  by_cases hx:s.toNat≤x.toNat
  ·rw [if_pos (by omega),if_pos hx];rfl
  ·rw [if_neg (by omega),if_neg hx]
 ·rintro ⟨s,d⟩;rfl
 ·rintro p x ⟨s,d⟩ k _ hk
  dsimp only
  have e:(sideS (-1) h.Neg.Offset 0 (p++[x])).reverse=⟨bkt (-1) h.Neg.Offset p.length,x⟩::(sideS (-1) h.Neg.Offset 0 p).reverse:=by rw [sideS_snoc,Nat.zero_add];simp
  rw [e,List.cons_append,nthF]
  by_cases hx:s.toNat≤x.toNat
  ·rw [if_pos hx,if_pos hx]
  ·rw [if_neg hx,if_neg hx,hk]
 ·rfl
end Go.Proofs.YtffboddbdpagkaaGreatDoor
set_option linter.unusedVariables false
set_option linter.unusedSimpArgs false
namespace Go.Proofs.YtffboddbdpagkaaGreatDoor
open Go Go.RowKit Go.Wk
theorem toU64_small {z:Int} (h0:0≤z) (h1:z<18446744073709551616):((toU64 z).toNat:Int)=z:=by
 obtain ⟨k,rfl⟩:=Int.eq_ofNat_of_zero_le h0
 have hk:k<18446744073709551616:=by omega
 have e:toU64 (k:Int)=UInt64.ofNat k:=by
  have h:=toU64_add (UInt64.ofNat k) 0;rw [ofNat_nat hk,show ((UInt64.toNat 0:Nat):Int)=0 from rfl,Int.add_zero,UInt64.add_zero] at h;exact h
 rw [e,ofNat_nat hk]
theorem toU64_diff {a b:Int} (h0:-1073741824≤b) (h1:b≤a) (h2:a≤1073741824):(((toU64 a)-(toU64 b)).toNat:Int)=a-b:=by
 rw [UInt64.toNat_sub];unfold toU64;simp only [UInt64.toNat_ofNat']
 omega
theorem At_eq {s:T_api_Side} (hs:sdE s=0) {j:Nat} {x:UInt64} (hx:s.Counts[j]?=some x):m_hist_At s (W64 (s.Offset+(j:Int)))=some x:=by
 have hj:=(List.getElem?_eq_some_iff.1 hx).1;have hb:=side_ok hs j hj;unfold m_hist_At;rw [jn_eq,W64_id (z:=s.Offset+(j:Int)) (by omega) (by omega),if_neg (by omega),toU64_diff hb.2.1 (by omega) hb.2.2,toU64_small (by omega) (by omega)];dsimp only;rw [if_neg (by rw [decide_eq_false (by omega)];decide),show s.Offset+(j:Int)-s.Offset=(j:Int) by omega,W64_id (by omega) (by omega),idx_nat,hx]
 rfl
theorem cond_eq {z b:Bk} (hb:¬badB b) (hz:z.Side=0→z.Index=0):((z.Side<b.Side)∨((z.Side=b.Side)∧(((z.Side>0)∧(z.Index<b.Index))∨((z.Side<0)∧(z.Index>b.Index)))))↔aheadB z b=true:=by
 unfold aheadB;unfold badB at hb
 by_cases h1:z.Side≠b.Side
 ·rw [if_pos h1,decide_eq_true_iff];omega
 ·rw [if_neg h1]
  by_cases h2:z.Side<0
  ·rw [if_pos h2,decide_eq_true_iff];omega
  ·rw [if_neg h2,decide_eq_true_iff];omega
theorem loop_eq {b:Bk} (hb:¬badB b) {l:List Stp} (hz:∀ x∈l,x.B.Side=0→x.B.Index=0) (hl:l.length<4611686018427387904) (J:UInt64→Option Bool):m_limnographlaw37_QueryBelow_L1 b l J fuel 0 0=J (bel b 0 l):=by
 rw [m_limnographlaw37_QueryBelow_L1_scan _ _ _ _ hl];refine scanL_inv (λ(p:List Stp) (t:UInt64)=>t=bel b 0 p) (λ_ _ _=>J (bel b 0 l)) rfl (λt ht=>by rw [ht]) ?_;rintro p x q t k hp rfl hk
 have hx:x∈l:=by rw [← hp];simp
 have e:bel b 0 (p++[x])=belF b (bel b 0 p) x:=by unfold bel;rw [List.foldl_append];rfl
 rw [jn_eq,bndS];have hc:=cond_eq hb (hz x hx)
 by_cases ha:aheadB x.B b=true
 ·rw [if_pos (hc.2 ha),bndS]
  refine hk _ ?_;rw [e];unfold belF;rw [if_pos ha]
 ·rw [if_neg (λh=>ha (hc.1 h))]
  refine hk _ ?_;rw [e];unfold belF;rw [if_neg ha]
theorem mono_aux {l A A' C C':List Stp} {x x':Stp} (h1:l=A++x::C) (h2:l=A'++x'::C') {n m:Nat} (a:sm A<n) (hnm:n≤m) (b:m≤sm A'+x'.N.toNat):sm A≤sm A':=by
 have e:=h1.symm.trans h2
 rcases List.append_eq_append_iff.1 e with ⟨D,e1,e2⟩|⟨D,e1,e2⟩
 ·rw [e1,sm_append];omega
 ·cases D with
  | nil=>rw [e1,sm_append,sm_nil];omega
  | cons y D=>
   rw [List.cons_append] at e2
   injection e2 with e3 e4
   rw [e1,sm_append,sm_cons,← e3] at a
   omega
theorem awake_eq:m_limnographlaw37_awake=some true:=by decide +kernel
theorem stp_zero {h:Hs}:∀ x∈stp h,x.B.Side=0→x.B.Index=0:=by
 intro x hx hs
 rcases stp_mem hx with ⟨h1,_⟩|rfl|⟨h1,_⟩
 ·omega
 ·rfl
 ·omega
theorem stp_good {h:Hs}:∀ x∈stp h,¬badB x.B:=by
 intro x hx;unfold badB
 rcases stp_mem hx with ⟨h1,_⟩|rfl|⟨h1,_⟩
 ·omega
 ·show ¬((0:Int) < -1∨(0:Int)>1∨((0:Int)=0∧(0:Int)≠0));decide
 ·omega
theorem nth_found {h:Hs} {n:UInt64} (hn:(nthE h n).2=true):hcE h=0∧∃ A x C,stp h=A++x::C∧(nthE h n).1=x.B∧sm A<n.toNat∧n.toNat≤sm A+x.N.toNat:=by
 unfold nthE at hn ⊢
 by_cases hc:hcE h≠0∨n.toNat=0∨n.toNat>totN h
 ·rw [if_pos hc] at hn;exact absurd hn (by decide)
 ·rw [if_neg hc]
  refine ⟨by omega,nthF_spec ⟨0,0⟩ (stp h) n (by omega) (by rw [sm_stp];omega)⟩
theorem below_law (x0:Hs) (x1 x2:UInt64) (x3:Bk):m_limnographlaw37_QueryBelow x0 x1 x2 x3=some true:=by
 unfold m_limnographlaw37_QueryBelow m_limnographref08_Light;rw [awake_eq,bndS,bndS,if_neg (by decide)]
 by_cases hL:(x0.Pos.Counts.length:Int)≤300∧(x0.Neg.Counts.length:Int)≤300
 case neg=>rw [if_pos (by rw [decide_eq_false hL];rfl)]
 rw [if_neg (by rw [decide_eq_true hL];decide)]
 have h1:x0.Pos.Counts.length≤1000000:=by omega
 have h2:x0.Neg.Counts.length≤1000000:=by omega
 rw [HCheck_eq x0 h1 h2,bndS,jn_eq]
 have key:∀ K:UInt64→Option Bool,K (if hcE x0≠0∨badB x3 then 0 else bel x3 0 (stp x0))=some true→(if (hcE x0=0)∧(((x3.Side=(-1))∨((x3.Side=0)∧(x3.Index=0)))∨(x3.Side=1)) then
  ((m_limnographref37_Steps x0).bind λp69=>
   jn (λ(y72:UInt64)=>
    (K y72)) λj6=>
   m_limnographlaw37_QueryBelow_L1 x3 p69 j6 fuel (0:UInt64) 0)
  else
  (K (0:UInt64)))=some true:=by
  intro K hK
  by_cases hb:hcE x0≠0∨badB x3
  ·rw [if_pos hb] at hK
   rw [if_neg (by unfold badB at hb;omega),hK]
  ·rw [if_neg hb] at hK
   rw [if_pos (by unfold badB at hb;omega),steps_eq x0 h1 h2,bndS,jn_eq,loop_eq (λh=>hb (.inr h)) stp_zero (by rw [stp_len];omega),hK]
 refine key _ ?_;rw [below_eq x0 h1 h2,bndS,if_neg (λh=>h rfl),nth_eq x0 h1 h2,nth_eq x0 h1 h2,bndS,bndS]
 by_cases hn:(nthE x0 x1).2=true
 case neg=>rw [if_pos (by rw [Bool.not_eq_true] at hn;rw [hn];rfl)]
 rw [if_neg (by rw [hn];decide)];obtain ⟨hc,A,x,C,e1,e2,e3,e4⟩:=nth_found hn;obtain ⟨c1,c2,c3⟩:=hc_ok hc;have hp:=stp_pair hc
 have hs:sm (stp x0)<2^64:=by rw [sm_stp];exact c3
 have hbel:∀ {A x C},stp x0=A++x::C→∃ w,m_query_Below x0 x.B=some w∧w.toNat=sm A:=by
  intro A x C e
  have hx:x∈stp x0:=by rw [e];simp
  refine ⟨bel x.B 0 (stp x0),?_,?_⟩
  ·rw [below_eq x0 h1 h2,if_neg (by rintro (h | h);exact h hc;exact stp_good x hx h)]
  ·rw [e] at hp hs ⊢;exact bel_at hp hs
 obtain ⟨w,hw,hw'⟩:=hbel e1
 have hx:x∈stp x0:=by rw [e1];simp
 rw [e2]
 have fin:∀ y:UInt64, y=x.N→((m_query_Below x0 x.B).bind λp49 =>
  jn (λ(y51:Bool)=>
   (if y51=true then
    (some false)
    else
    (jn (λ(y56:Bool)=>
     (some y56)) λj5=>
     if ((!(nthE x0 x2).2)=true)∨(((x2).toNat:Int)<((x1).toNat:Int)) then
     (j5 true)
     else
     ((m_query_Below x0 (nthE x0 x2).1).bind λp59=>
      j5 (decide (((p59).toNat:Int)≥((p49).toNat:Int))))))) λj4=>
  if ((p49).toNat:Int)≥((x1).toNat:Int) then
  (j4 true)
  else
  (j4 (decide (((x1-p49).toNat:Int)>((y).toNat:Int)))))=some true:=by
  rintro y rfl;rw [hw,bndS,jn_eq,if_neg (by omega),decide_eq_false (by rw [UInt64.toNat_sub_of_le _ _ (UInt64.le_iff_toNat_le.2 (by omega))];omega)];dsimp only;rw [if_neg (by decide),jn_eq]
  by_cases hm:(nthE x0 x2).2=true
  case neg=>rw [if_pos (.inl (by rw [Bool.not_eq_true] at hm;rw [hm];rfl))]
  by_cases hlt:x2.toNat<x1.toNat
  ·rw [if_pos (.inr (by omega))]
  rw [if_neg (by rw [hm];rintro (h | h);exact absurd h (by decide);omega)];obtain ⟨_,A',x',C',f1,f2,f3,f4⟩:=nth_found hm;obtain ⟨v,hv,hv'⟩:=hbel f1;rw [f2,hv,bndS];have:=mono_aux e1 f1 e3 (Nat.le_of_not_lt hlt) f4;rw [decide_eq_true (by omega)]
 rw [jn_eq]
 rcases stp_mem hx with ⟨s1,j,_,j2,j3⟩|rfl|⟨s1,j,_,j2,j3⟩
 ·rw [if_pos (by omega),j3,At_eq c2 j2,bndS]
  dsimp only;rw [jn_eq,if_neg (by omega)];exact fin _ rfl
 ·rw [if_neg (show ¬((zerS x0).B.Side<0) from λh=>absurd (show (0:Int)<0 from h) (by decide))]
  dsimp only;rw [jn_eq,if_neg (show ¬((zerS x0).B.Side>0) from λh=>absurd (show (0:Int)<0 from h) (by decide))];exact fin _ rfl
 ·rw [if_neg (by omega)]
  dsimp only;rw [jn_eq,if_pos (by omega),j3,At_eq c1 j2,bndS];exact fin _ rfl
end Go.Proofs.YtffboddbdpagkaaGreatDoor
