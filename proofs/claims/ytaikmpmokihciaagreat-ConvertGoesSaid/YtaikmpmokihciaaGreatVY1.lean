import Derived.WalkKit
import Derived.Maps.AppendAt
import Derived.Deep.AppendLies
import Derived.OrdersHeld
import Derived.KernelRfl
import Derived.Laws.IdiomStrings
set_option linter.unusedVariables false
set_option linter.unusedSimpArgs false
namespace Go.Wk
open Go Go.RowKit
abbrev Env:=List (Nat×Value)
def lk:Env→Nat→Option Value
 | [],_=>none
 | p::r,t=>bif Nat.beq p.1 t then some p.2 else lk r t
theorem lk_same (e:Env) (d:Nat) (v:Value):lk ((d,v)::e) d=some v:=by simp [lk]
theorem lk_other (e:Env) {d t:Nat} (v:Value) (h:d≠t):lk ((d,v)::e) t=lk e t:=by
 have:Nat.beq d t=false:=by
  cases hb:Nat.beq d t with
  | false=>rfl
  | true=>exact absurd (Nat.eq_of_beq_eq_true hb) h
 simp [lk,this]
def Fits (e:Env) (n:Nat) (tm:Array Value):Prop:=tm.size=n∧∀ t v,lk e t=some v→tm[t]?=some v
theorem Fits.put {e:Env} {n:Nat} {tm:Array Value} (h:Fits e n tm) {d:Nat} (hd:d<n) (v:Value):Fits ((d,v)::e) n (tm.setIfInBounds d v):=by
 refine ⟨by simpa using h.1,λt u hu=>?_⟩
 by_cases hdt:d=t
 ·subst hdt
  rw [lk_same] at hu
  cases hu
  simp [Array.getElem?_setIfInBounds,h.1,hd]
 ·rw [lk_other _ _ hdt] at hu
  rw [Array.getElem?_setIfInBounds_ne hdt];exact h.2 t u hu
def Sub (e e':Env):Prop:=∀ t v,lk e t=some v→lk e' t=some v
theorem Sub.nil (e':Env):Sub [] e':=λ_ _ h=>by cases h
theorem Sub.cons {e e':Env} {t:Nat} {v:Value} (h:lk e' t=some v) (hs:Sub e e'):Sub ((t,v)::e) e':=by
 intro u x hu
 by_cases htu:t=u
 ·subst htu;rw [lk_same] at hu;cases hu;exact h
 ·rw [lk_other _ _ htu] at hu;exact hs u x hu
theorem Sub.refl (e:Env):Sub e e:=λ_ _ h=>h
theorem Sub.drop (e:Env) (d:Nat) (v:Value) (h:lk e d=none):Sub e ((d,v)::e):=by
 intro t u hu
 by_cases hdt:d=t
 ·subst hdt;rw [h] at hu;cases hu
 ·rw [lk_other _ _ hdt];exact hu
theorem Fits.sub {e e':Env} {n:Nat} {tm:Array Value} (h:Fits e' n tm) (hs:Sub e e'):Fits e n tm:=⟨h.1,λt v hv=>h.2 t v (hs t v hv)⟩
def argEnv:Nat→List Value→Env
 | _,[]=>[]
 | k,v::r=>(k,v)::argEnv (k+1) r
theorem lk_argEnv:∀ (l:List Value) (k t:Nat) (v:Value),lk (argEnv k l) t=some v→k≤t∧l[t-k]?=some v
 | [],_,_,_,h=>by cases h
 | u::r,k,t,v,h=>by
  by_cases hk:k=t
  ·subst hk
   simp only [argEnv,lk_same] at h;simp [h]
  ·simp only [argEnv] at h
   rw [lk_other _ _ hk] at h;obtain ⟨h1,h2⟩:=lk_argEnv r (k+1) t v h;refine ⟨by omega,?_⟩
   have:t-k=(t-(k+1))+1:=by omega
   rw [this,List.getElem?_cons_succ];exact h2
theorem fits_args (l:List Value) (n:Nat) (h:l.length≤n):Fits (argEnv 0 l) n (l.toArray++Array.replicate (n-l.length) undef):=by
 refine ⟨by simp;omega,λt v hv=>?_⟩;obtain ⟨_,h2⟩:=lk_argEnv l 0 t v hv;simp only [Nat.sub_zero] at h2
 have hlt:t<l.length:=by
  rcases Nat.lt_or_ge t l.length with hh|hh
  ·exact hh
  ·rw [List.getElem?_eq_none hh] at h2;cases h2
 rw [Array.getElem?_append_left (by simpa using hlt)];simpa using h2
def ev (e:Env):Operand→Option Value
 | .tmp t=>lk e t
 | .const v=>some v
 | .global g=>some (.pointer (some ⟨g,0,none⟩))
 | .func f=>some (.func (.func f) #[] #[])
theorem ev_eval {e:Env} {n:Nat} {a:Act} (hf:Fits e n a.tmps) {x:Operand} {v:Value} (h:ev e x=some v):a.eval x=v:=by
 cases x with
 | tmp t=>simp only [ev] at h;have:=hf.2 t v h;simp [Act.eval,this]
 | const c=>simpa [ev,Act.eval] using h
 | global g=>simpa [ev,Act.eval] using h
 | func f=>simpa [ev,Act.eval] using h
def gok (e:Env) (ops:Array Oper):Option (Nat×Bool)→Bool
 | none=>true
 | some (j,p)=>match (ops[j]?).bind (·.dst) with
  | some d=>match lk e d with
   | some (.bool c)=>c==p
   | _=>false
  | none=>false
def gno (e:Env) (ops:Array Oper):Option (Nat×Bool)→Bool
 | none=>false
 | some (j,p)=>match (ops[j]?).bind (·.dst) with
  | some d=>match lk e d with
   | some (.bool c)=>c != p
   | some _=>true
   | none=>false
  | none=>false
theorem wanted_of_gok {e:Env} {n:Nat} {ops:Array Oper} {tm:Array Value} (hf:Fits e n tm) {o:Oper} (h:gok e ops o.guard=true):Region.wanted o (yielded ops tm)=true:=by
 unfold Region.wanted
 cases hg:o.guard with
 | none=>rfl
 | some q=>
  obtain ⟨j,p⟩:=q;rw [hg] at h;simp only [gok] at h
  split at h
  ·rename_i d hd
   split at h
   ·rename_i c hc
    have:=hf.2 _ _ hc
    have hcp:c=p:=by simpa using h
    subst hcp
    have hy:yielded ops tm j=some c:=by unfold yielded;simp only [hd,Option.bind_some,this]
    simp [hy]
   ·cases h
  ·cases h
theorem wanted_of_gno {e:Env} {n:Nat} {ops:Array Oper} {tm:Array Value} (hf:Fits e n tm) {o:Oper} (h:gno e ops o.guard=true):Region.wanted o (yielded ops tm)=false:=by
 unfold Region.wanted
 cases hg:o.guard with
 | none=>rw [hg] at h;cases h
 | some q=>
  obtain ⟨j,p⟩:=q;rw [hg] at h;simp only [gno] at h
  split at h
  ·rename_i d hd
   split at h
   ·rename_i c hc
    have:=hf.2 _ _ hc
    have hcp:c≠p:=by simpa using h
    have hy:yielded ops tm j=some c:=by unfold yielded;simp only [hd,Option.bind_some,this]
    simp [hy,hcp]
   ·rename_i v hnb hc
    have h2:=hf.2 _ _ hc
    have hy:yielded ops tm j=none:=by
     unfold yielded;simp only [hd,Option.bind_some,h2]
     cases v<;>first | rfl | exact (hnb _ rfl).elim
    simp [hy]
   ·cases h
  ·cases h
def Rn (P:Program) (f:FuncId) (n:Nat) (R:Ending→World→Prop) (k:List Item) (e:Env) (w:World):Prop:=
 ∀ (b:Frame) (tm:Array Value) (cs:List Frame),b.fn=f→b.kind=.normal→Fits e n tm →
  ∃ x w' fr,R x w'∧Comes P (lone (b.at ⟨tm,[]⟩ k) cs w) (lone fr cs w') x∧fr.fn=f∧fr.leaving P w' x
section
variable {P:Program} {f:FuncId} {n:Nat} {R:Ending→World→Prop} {k:List Item} {e:Env} {w:World}
theorem Rn.enter {fn:Func} {c:Code} {args:List Value} (hf:P.funcs[f]?=some fn) (hb:fn.body=some c) (hn:fn.ntmps=n) (hl:args.length≤n)
 (h:Rn P f n R [.code c] (argEnv 0 args) w):Calls P f args.toArray w R:=by
 intro cs
 let b:Frame:={ (default:Frame) with fn:=f,kind:=.normal }
 have henter:Frame.enter P f args.toArray .normal=b.at { tmps:=args.toArray++Array.replicate (n-args.length) undef,defers:=[] } [.code c]:=by
  simp [Frame.enter,Frame.at,hf,hb,b,hn]
 obtain ⟨x,w',fr,hR,hc,hfn,hl'⟩:=h b _ cs rfl rfl (fits_args args n hl);rw [← henter] at hc;exact ⟨x,w',fr,hR,hc,hfn,hl'⟩
theorem Rn.weaken {e':Env} (h:Rn P f n R k e' w) (hs:Sub e' e):Rn P f n R k e w:=λb tm cs h1 h2 h3=>h b tm cs h1 h2 (h3.sub hs)
theorem Rn.mono {R':Ending→World→Prop} (h:Rn P f n R' k e w) (hr:∀ x w',R' x w'→R x w'):Rn P f n R k e w:=
 λb tm cs h1 h2 h3=>let ⟨x,w',fr,r,q⟩:=h b tm cs h1 h2 h3;⟨x,w',fr,hr _ _ r,q⟩
theorem Rn.byStep {k':List Item} {e':Env} {w':World}
 (hs:∀ (b:Frame) (tm:Array Value) (cs:List Frame),b.fn=f→b.kind=.normal→Fits e n tm→∃ tm',Fits e' n tm'∧step P (lone (b.at ⟨tm,[]⟩ k) cs w)=.next (lone (b.at ⟨tm',[]⟩ k') cs w'))
 (h:Rn P f n R k' e' w'):Rn P f n R k e w:=by
 intro b tm cs h1 h2 h3;obtain ⟨tm',hf',hst⟩:=hs b tm cs h1 h2 h3;obtain ⟨x,w1,fr,hR,hc,q⟩:=h b tm' cs h1 h2 hf';exact ⟨x,w1,fr,hR,Comes.of_steps (.one hst) hc,q⟩
theorem Rn.plain {k':List Item} {w':World}
 (hs:∀ (b:Frame) (tm:Array Value) (cs:List Frame),step P (lone (b.at ⟨tm,[]⟩ k) cs w)=.next (lone (b.at ⟨tm,[]⟩ k') cs w'))
 (h:Rn P f n R k' e w'):Rn P f n R k e w:=Rn.byStep (λb tm cs _ _ h3=>⟨tm,h3,hs b tm cs⟩) h
theorem Rn.skip (h:Rn P f n R k e w):Rn P f n R (.code .skip::k) e w:=Rn.plain (λ_ _ _=>step_skip) h
theorem Rn.label {l:Nat} (h:Rn P f n R k e w):Rn P f n R (.code (.label l)::k) e w:=Rn.plain (λ_ _ _=>step_label) h
theorem Rn.inBlock {id:Nat} (h:Rn P f n R k e w):Rn P f n R (.inBlock id::k) e w:=Rn.plain (λ_ _ _=>step_inBlock) h
theorem Rn.inScope {c:Code} (h:Rn P f n R k e w):Rn P f n R (.inScope c::k) e w:=
 Rn.plain (λ_ _ _=>step_lone_go (by simp [stepG,stepG.exec,Frame.at])) h
theorem Rn.scope {c:Code} (h:Rn P f n R (.code c::.inScope c::k) e w):Rn P f n R (.code (.scope c)::k) e w:=
 Rn.plain (λ_ _ _=>step_lone_go (by simp [stepG,stepG.exec,Frame.at])) h
theorem Rn.seq {x y:Code} (h:Rn P f n R (.code x::.code y::k) e w):Rn P f n R (.code (.seq x y)::k) e w:=Rn.plain (λ_ _ _=>step_seq) h
theorem Rn.block {id:Nat} {c:Code} (h:Rn P f n R (.code c::.inBlock id::k) e w):Rn P f n R (.code (.block id c)::k) e w:=Rn.plain (λ_ _ _=>step_block) h
theorem Rn.loop {c:Code} (h:Rn P f n R (.code c::.inLoop c::k) e w):Rn P f n R (.code (.loop c)::k) e w:=Rn.plain (λ_ _ _=>step_loop) h
theorem Rn.inLoop {c:Code} (h:Rn P f n R (.code c::.inLoop c::k) e w):Rn P f n R (.inLoop c::k) e w:=Rn.plain (λ_ _ _=>step_inLoop) h
theorem Rn.exit {id:Nat} {k':List Item} (hk:exitTo id k=some k') (h:Rn P f n R k' e w):Rn P f n R (.code (.exit id)::k) e w:=Rn.plain (λ_ _ _=>step_exit hk) h
theorem Rn.goto {l:Nat} {k':List Item} (hk:gotoIn l k=some k') (h:Rn P f n R k' e w):Rn P f n R (.code (.goto l)::k) e w:=Rn.plain (λ_ _ _=>step_goto hk) h
theorem Rn.cond {c:Operand} {x y:Code} {t:Bool} (hc:ev e c=some (.bool t)) (h:Rn P f n R (.code (bif t then x else y)::k) e w):Rn P f n R (.code (.cond c x y)::k) e w:=
 Rn.byStep (λb tm cs _ _ h3=>⟨tm,h3,by
  have:=step_cond (P:=P) (b:=b) (a:=⟨tm,[]⟩) (k:=k) (cs:=cs) (w:=w) (c:=c) (x:=x) (y:=y) (t:=t) (ev_eval (a:=⟨tm,[]⟩) h3 hc)
  rw [this];cases t<;>rfl⟩) h
theorem Rn.condT {c:Operand} {x y:Code} (hc:ev e c=some (.bool true)) (h:Rn P f n R (.code x::k) e w):Rn P f n R (.code (.cond c x y)::k) e w:=Rn.cond hc h
theorem Rn.condF {c:Operand} {x y:Code} (hc:ev e c=some (.bool false)) (h:Rn P f n R (.code y::k) e w):Rn P f n R (.code (.cond c x y)::k) e w:=Rn.cond hc h
theorem Rn.condS {c:Operand} {x y:Code} {t:Bool} (hc:ev e c=some (.bool t)) (ht:t=true→Rn P f n R (.code x::k) e w) (hf:t=false→Rn P f n R (.code y::k) e w) :
 Rn P f n R (.code (.cond c x y)::k) e w:=by
 cases t
 ·exact Rn.cond hc (hf rfl)
 ·exact Rn.cond hc (ht rfl)
theorem Rn.condD {c:Operand} {x y:Code} {p:Prop} [Decidable p] (hc:ev e c=some (.bool (decide p))) (ht:p→Rn P f n R (.code x::k) e w) (hf:¬p→Rn P f n R (.code y::k) e w) :
 Rn P f n R (.code (.cond c x y)::k) e w:=Rn.condS hc (λh=>ht (of_decide_eq_true h)) (λh=>hf (of_decide_eq_false h))
theorem Rn.reg {id:Nat} {ops:Array Oper} (h:Rn P f n R (.inRegion ops (List.range ops.size)::k) e w):Rn P f n R (.code (.region id ops false)::k) e w:=Rn.plain (λ_ _ _=>step_region) h
theorem Rn.regEnd {ops:Array Oper} (h:Rn P f n R k e w):Rn P f n R (.inRegion ops []::k) e w:=Rn.plain (λ_ _ _=>step_region_end) h
theorem Rn.part {t:Nat} {b:Bool} (hl:lk e t=some (.bool b)) (ht:b=true→Rn P f n R k ((t,.bool true)::e) w) (hf:b=false→Rn P f n R k ((t,.bool false)::e) w):Rn P f n R k e w:=by
 cases b
 ·exact (hf rfl).weaken (Sub.cons hl (Sub.refl e))
 ·exact (ht rfl).weaken (Sub.cons hl (Sub.refl e))
theorem Rn.partD {t:Nat} {p:Prop} [Decidable p] (hl:lk e t=some (.bool (decide p))) (ht:p→Rn P f n R k ((t,.bool true)::e) w) (hf:¬p→Rn P f n R k ((t,.bool false)::e) w):Rn P f n R k e w:=
 Rn.part hl (λh=>ht (of_decide_eq_true h)) (λh=>hf (of_decide_eq_false h))
theorem Rn.say {t:Nat} {u:Value} (v:Value) (hl:lk e t=some u) (hv:u=v) (h:Rn P f n R k ((t,v)::e) w):Rn P f n R k e w:=by
 subst hv;exact h.weaken (Sub.cons hl (Sub.refl e))
theorem Rn.cut {G:Type} (E:G→Env) (I:G→World→Prop) {k1:List Item} (h:(∀ g w' e',Sub (E g) e'→I g w'→Rn P f n R k e' w')→Rn P f n R k1 e w)
 (rest:∀ g w',I g w'→Rn P f n R k (E g) w'):Rn P f n R k1 e w:=h λg w' _ hs hI=>(rest g w' hI).weaken hs
theorem Rn.retV {fn:Func} {v:Value} (hf:P.funcs[f]?=some fn) (hr:∀ tm,Fits e n tm→(results fn tm).run P w=.ok v w) (h:R (.returned v) w):Rn P f n R (.code .ret::k) e w:=by
 intro b tm cs h1 h2 h3;refine ⟨.returned v,w,{ b.at ⟨tm,[]⟩ (.code .ret::k) with mode:=.returning },h,Steps.one step_ret,h1,rfl,rfl,h2,fn,?_,hr tm h3⟩;simpa [Frame.at,h1] using hf
theorem Rn.endV {fn:Func} {v:Value} (hf:P.funcs[f]?=some fn) (hr:∀ tm,Fits e n tm→(results fn tm).run P w=.ok v w) (h:R (.returned v) w):Rn P f n R [] e w:=by
 intro b tm cs h1 h2 h3;refine ⟨.returned v,w,{ b.at ⟨tm,[]⟩ [] with mode:=.returning },h,Steps.one step_end,h1,rfl,rfl,h2,fn,?_,hr tm h3⟩;simpa [Frame.at,h1] using hf
theorem getD_of_fits {tm:Array Value} (h:Fits e n tm) {t:Nat} {v:Value} (hl:lk e t=some v):tm.getD t undef=v:=by simp [h.2 t v hl]
theorem res0 {fn:Func} (hr:fn.results=#[]) (tm:Array Value):(results fn tm).run P w=.ok (.tuple #[]) w:=by simp [results,hr]
theorem res2 {fn:Func} {t u:Nat} (hr:fn.results=#[.tmp t,.tmp u]) {v x:Value} (hl:lk e t=some v) (hl':lk e u=some x) (tm:Array Value) (h:Fits e n tm):(results fn tm).run P w=.ok (.tuple #[v,x]) w:=by
 simp [results,hr,h.2 t v hl,h.2 u x hl']
theorem Rn.ret0 {fn:Func} (hf:P.funcs[f]?=some fn) (hr:fn.results=#[]) (h:R (.returned (.tuple #[])) w):Rn P f n R (.code .ret::k) e w:=Rn.retV hf (λtm _=>res0 hr tm) h
theorem Rn.end0 {fn:Func} (hf:P.funcs[f]?=some fn) (hr:fn.results=#[]) (h:R (.returned (.tuple #[])) w):Rn P f n R [] e w:=Rn.endV hf (λtm _=>res0 hr tm) h
theorem Rn.ret2 {fn:Func} {t u:Nat} {v x:Value} (hf:P.funcs[f]?=some fn) (hr:fn.results=#[.tmp t,.tmp u]) (hl:lk e t=some v) (hl':lk e u=some x) (h:R (.returned (.tuple #[v,x])) w):Rn P f n R (.code .ret::k) e w:=
 Rn.retV hf (λtm hh=>res2 hr hl hl' tm hh) h
def pd (dst:Option Nat) (v:Value) (e:Env):Env:=match dst with | some d=>(d,v)::e | none=>e
section
variable {ops:Array Oper} {i:Nat} {rest:List Nat} {o:Oper}
theorem Rn.opV {v:Value} {w':World} {d:Nat} (ho:ops[i]?=some o) (hg:gok e ops o.guard=true) (hd:o.dst=some d) (hn:Nat.blt d n=true)
 (hrun:∀ a:Act,Fits e n a.tmps→(execOp a.eval o).run P w=.ok (.value v) w')
 (h:Rn P f n R (.inRegion ops rest::k) ((d,v)::e) w'):Rn P f n R (.inRegion ops (i::rest)::k) e w:=by
 have hn':d<n:=by simpa [Nat.blt_eq] using hn
 refine Rn.byStep (λb tm cs _ _ h3=>⟨tm.setIfInBounds d v,h3.put hn' v,?_⟩) h;have hw:=wanted_of_gok (ops:=ops) (tm:=tm) h3 hg;have hst:=stepG_op (P:=P) (b:=b) (a:=⟨tm,[]⟩) (k:=k) (cs:=cs) (w:=w) (rest:=rest) ho hw;have hfin:=Frame.finish_at b ⟨tm,[]⟩ ops i rest k v;refine step_lone_go ?_;rw [hst];have hr:=hrun ⟨tm,[]⟩ h3
 have hfin':(b.at ⟨tm,[]⟩ (.inRegion ops (i::rest)::k)).finish v=b.at ⟨tm.setIfInBounds d v,[]⟩ (.inRegion ops rest::k):=by
  rw [hfin];simp [ho,hd,Act.put]
 rw [← hfin'];simp [stepG.apply,hr]
theorem Rn.opU {w':World} (ho:ops[i]?=some o) (hg:gok e ops o.guard=true) (hd:o.dst=none)
 (hrun:∀ a:Act,Fits e n a.tmps→(execOp a.eval o).run P w=.ok .skip w')
 (h:Rn P f n R (.inRegion ops rest::k) e w'):Rn P f n R (.inRegion ops (i::rest)::k) e w:=by
 refine Rn.byStep (λb tm cs _ _ h3=>⟨tm,h3,?_⟩) h;have hw:=wanted_of_gok (ops:=ops) (tm:=tm) h3 hg;have hst:=stepG_op (P:=P) (b:=b) (a:=⟨tm,[]⟩) (k:=k) (cs:=cs) (w:=w) (rest:=rest) ho hw;have hfin:=Frame.finish_at b ⟨tm,[]⟩ ops i rest k undef;refine step_lone_go ?_;rw [hst];have hr:=hrun ⟨tm,[]⟩ h3
 have hfin':(b.at ⟨tm,[]⟩ (.inRegion ops (i::rest)::k)).finish undef=b.at ⟨tm,[]⟩ (.inRegion ops rest::k):=by
  rw [hfin];simp [ho,hd,Act.put]
 rw [← hfin'];simp [stepG.apply,hr]
theorem Rn.no {d:Nat} (ho:ops[i]?=some o) (hg:gno e ops o.guard=true) (hd:o.dst=some d) (hn:Nat.blt d n=true)
 (h:Rn P f n R (.inRegion ops rest::k) ((d,undef)::e) w):Rn P f n R (.inRegion ops (i::rest)::k) e w:=by
 have hn':d<n:=by simpa [Nat.blt_eq] using hn
 refine Rn.byStep (λb tm cs _ _ h3=>⟨tm.setIfInBounds d undef,h3.put hn' undef,?_⟩) h;have hw:=wanted_of_gno (ops:=ops) (tm:=tm) h3 hg;have:=step_op_skip (P:=P) (b:=b) (a:=⟨tm,[]⟩) (k:=k) (cs:=cs) (w:=w) (rest:=rest) (ops:=ops) (i:=i) (by simp only [ho,Option.map_some,Option.getD_some];exact hw);rw [this];simp [ho,hd,Act.put]
theorem Rn.noU (ho:ops[i]?=some o) (hg:gno e ops o.guard=true) (hd:o.dst=none)
 (h:Rn P f n R (.inRegion ops rest::k) e w):Rn P f n R (.inRegion ops (i::rest)::k) e w:=by
 refine Rn.byStep (λb tm cs _ _ h3=>⟨tm,h3,?_⟩) h;have hw:=wanted_of_gno (ops:=ops) (tm:=tm) h3 hg;have:=step_op_skip (P:=P) (b:=b) (a:=⟨tm,[]⟩) (k:=k) (cs:=cs) (w:=w) (rest:=rest) (ops:=ops) (i:=i) (by simp only [ho,Option.map_some,Option.getD_some];exact hw);rw [this];simp [ho,hd,Act.put]
theorem Rn.opC' {g:FuncId} {args:Array Value} {R':Ending→World→Prop} {dst:Option Nat} (ho:ops[i]?=some o) (hg:gok e ops o.guard=true) (hd:o.dst=dst)
 (hn:(dst.all λd=>Nat.blt d n)=true)
 (hrun:∀ a:Act,Fits e n a.tmps→(execOp a.eval o).run P w=.ok (.enter g args) w) (hc:Calls P g args w R')
 (h:∀ x w',R' x w'→∃ v,x=.returned v∧Rn P f n R (.inRegion ops rest::k) (pd dst v e) w'):Rn P f n R (.inRegion ops (i::rest)::k) e w:=by
 intro b tm cs h1 h2 h3;have hw:=wanted_of_gok (ops:=ops) (tm:=tm) h3 hg;have hst:=stepG_op (P:=P) (b:=b) (a:=⟨tm,[]⟩) (k:=k) (cs:=cs) (w:=w) (rest:=rest) ho hw;have hr:=hrun ⟨tm,[]⟩ h3;have henter:step P (lone (b.at ⟨tm,[]⟩ (.inRegion ops (i::rest)::k)) cs w) =
  .next (lone (Frame.enter P g args .normal) (b.at ⟨tm,[]⟩ (.inRegion ops (i::rest)::k)::cs) w):=
  step_lone_go (by rw [hst];simp [stepG.apply,hr,Frame.at])
 obtain ⟨x,w',fr,hR,hcomes,_,hleave⟩:=hc (b.at ⟨tm,[]⟩ (.inRegion ops (i::rest)::k)::cs);obtain ⟨v,rfl,hk⟩:=h x w' hR;have hfin:=Frame.finish_at b ⟨tm,[]⟩ ops i rest k v;have hleave':=step_leave_returned (cs:=cs) (c:=b.at ⟨tm,[]⟩ (.inRegion ops (i::rest)::k)) hleave;rw [hfin] at hleave';subst hd
 cases hd:o.dst with
 | none=>
  rw [hd] at hk;obtain ⟨x2,w2,fr2,hR2,hc2,q⟩:=hk b tm cs h1 h2 h3;refine ⟨x2,w2,fr2,hR2,Comes.of_steps (.head henter (hcomes.trans (.one ?_))) hc2,q⟩;rw [hleave'];simp [ho,hd,Act.put]
 | some d=>
  rw [hd] at hk hn
  have hn':d<n:=by simpa [Nat.blt_eq] using hn
  obtain ⟨x2,w2,fr2,hR2,hc2,q⟩:=hk b (tm.setIfInBounds d v) cs h1 h2 (h3.put hn' v);refine ⟨x2,w2,fr2,hR2,Comes.of_steps (.head henter (hcomes.trans (.one ?_))) hc2,q⟩;rw [hleave'];simp [ho,hd,Act.put]
theorem Rn.opC {g:FuncId} {args:Array Value} {R':Ending→World→Prop} {d:Nat} (ho:ops[i]?=some o) (hg:gok e ops o.guard=true) (hd:o.dst=some d)
 (hn:Nat.blt d n=true) (hrun:∀ a:Act,Fits e n a.tmps→(execOp a.eval o).run P w=.ok (.enter g args) w) (hc:Calls P g args w R')
 (h:∀ x w',R' x w'→∃ v,x=.returned v∧Rn P f n R (.inRegion ops rest::k) ((d,v)::e) w'):Rn P f n R (.inRegion ops (i::rest)::k) e w:=
 Rn.opC' (dst:=some d) ho hg hd (by simpa using hn) hrun hc h
end
end
end Go.Wk
set_option linter.unusedVariables false
set_option linter.unusedSimpArgs false
namespace Go.Wk
open Go Go.RowKit
abbrev Str (l:List UInt8):Value:=.string ⟨l.toArray⟩
def OpV (P:Program) (n:Nat) (e:Env) (w:World) (o:Oper) (v:Value) (w':World):Prop:=∀ a:Act,Fits e n a.tmps→(execOp a.eval o).run P w=.ok (.value v) w'
section
variable {P:Program} {f:FuncId} {n:Nat} {R:Ending→World→Prop} {k:List Item} {e:Env} {w:World}
variable {ops:Array Oper} {i:Nat} {rest:List Nat} {o:Oper}
theorem Rn.v {v:Value} {w':World} {d:Nat} (ho:ops[i]?=some o) (hg:gok e ops o.guard=true) (hd:o.dst=some d) (hn:Nat.blt d n=true) (hv:OpV P n e w o v w')
 (h:Rn P f n R (.inRegion ops rest::k) ((d,v)::e) w'):Rn P f n R (.inRegion ops (i::rest)::k) e w:=Rn.opV ho hg hd hn hv h
end
section
variable {P:Program} {f:FuncId} {n:Nat} {R:Ending→World→Prop} {k:List Item} {e:Env} {w:World}
variable {ops:Array Oper} {i:Nat} {rest:List Nat} {d:Nat} {dst:Option Nat} {ty:TypeId} {pos:String} {af:Array Edge} {g:Option (Nat×Bool)}
theorem V.mv {x:Operand} {v:Value} (hx:ev e x=some v) :
 OpV P n e w ⟨dst,.move x,ty,pos,af,g⟩ (v) w:=
 λa hf=>by simp [execOp,ev_eval hf hx]
theorem V.as {x:Operand} {v:Value} (hx:ev e x=some v) :
 OpV P n e w ⟨dst,.assign x,ty,pos,af,g⟩ (v) w:=
 λa hf=>by simp [execOp,ev_eval hf hx]
theorem V.pkT {c x y:Operand} {v:Value} (hc:ev e c=some (.bool true)) (hx:ev e x=some v) :
 OpV P n e w ⟨dst,.pick c x y,ty,pos,af,g⟩ (v) w:=
 λa hf=>by simp [execOp,ev_eval hf hx,ev_eval hf hc,asBool]
theorem V.pkF {c x y:Operand} {v:Value} (hc:ev e c=some (.bool false)) (hx:ev e y=some v) :
 OpV P n e w ⟨dst,.pick c x y,ty,pos,af,g⟩ (v) w:=
 λa hf=>by simp [execOp,ev_eval hf hx,ev_eval hf hc,asBool]
theorem V.addW {q:IntKind} {x y:Operand} {a b:Int} {t u:TypeId} (hx:ev e x=some (.int q a)) (hy:ev e y=some (.int q b)) :
 OpV P n e w ⟨dst,.binOp .add t x y u,ty,pos,af,g⟩ (.int q (q.wrap (a+b))) w:=
 λc hf=>by simp [execOp,ev_eval hf hx,ev_eval hf hy,eqGuard_add,binOp_add,Op.intArith]
theorem V.subW {q:IntKind} {x y:Operand} {a b:Int} {t u:TypeId} (hx:ev e x=some (.int q a)) (hy:ev e y=some (.int q b)) :
 OpV P n e w ⟨dst,.binOp .sub t x y u,ty,pos,af,g⟩ (.int q (q.wrap (a-b))) w:=
 λc hf=>by simp [execOp,ev_eval hf hx,ev_eval hf hy,eqGuard_sub,binOp_sub,Op.intArith]
theorem V.mulW {q:IntKind} {x y:Operand} {a b:Int} {t u:TypeId} (hx:ev e x=some (.int q a)) (hy:ev e y=some (.int q b)) :
 OpV P n e w ⟨dst,.binOp .mul t x y u,ty,pos,af,g⟩ (.int q (q.wrap (a*b))) w:=
 λc hf=>by simp [execOp,ev_eval hf hx,ev_eval hf hy,eqGuard_mul,binOp_mul,Op.intArith]
theorem V.lss {q:IntKind} {x y:Operand} {a b:Int} {t u:TypeId} (hx:ev e x=some (.int q a)) (hy:ev e y=some (.int q b)) :
 OpV P n e w ⟨dst,.binOp .lss t x y u,ty,pos,af,g⟩ (.bool (decide (a<b))) w:=
 λc hf=>by simp [execOp,ev_eval hf hx,ev_eval hf hy,eqGuard_lss,binOp_lss]
theorem V.leq {q:IntKind} {x y:Operand} {a b:Int} {t u:TypeId} (hx:ev e x=some (.int q a)) (hy:ev e y=some (.int q b)) :
 OpV P n e w ⟨dst,.binOp .leq t x y u,ty,pos,af,g⟩ (.bool (decide (a≤b))) w:=
 λc hf=>by simp [execOp,ev_eval hf hx,ev_eval hf hy,eqGuard_leq,binOp_leq]
theorem V.gtr {q:IntKind} {x y:Operand} {a b:Int} {t u:TypeId} (hx:ev e x=some (.int q a)) (hy:ev e y=some (.int q b)) :
 OpV P n e w ⟨dst,.binOp .gtr t x y u,ty,pos,af,g⟩ (.bool (decide (b<a))) w:=
 λc hf=>by simp [execOp,ev_eval hf hx,ev_eval hf hy,eqGuard_gtr,binOp_gtr,GT.gt]
theorem V.geq {q:IntKind} {x y:Operand} {a b:Int} {t u:TypeId} (hx:ev e x=some (.int q a)) (hy:ev e y=some (.int q b)) :
 OpV P n e w ⟨dst,.binOp .geq t x y u,ty,pos,af,g⟩ (.bool (decide (b≤a))) w:=
 λc hf=>by simp [execOp,ev_eval hf hx,ev_eval hf hy,eqGuard_geq,binOp_geq,GE.ge]
theorem V.eql {q:IntKind} {x y:Operand} {a b:Int} {t u:TypeId} (hx:ev e x=some (.int q a)) (hy:ev e y=some (.int q b)) :
 OpV P n e w ⟨dst,.binOp .eql t x y u,ty,pos,af,g⟩ (.bool (decide (a=b))) w:=
 λc hf=>by simp [execOp,ev_eval hf hx,ev_eval hf hy,eqGuard_at_int,binOp_eql];rfl
theorem V.neq {q:IntKind} {x y:Operand} {a b:Int} {t u:TypeId} (hx:ev e x=some (.int q a)) (hy:ev e y=some (.int q b)) :
 OpV P n e w ⟨dst,.binOp .neq t x y u,ty,pos,af,g⟩ (.bool (decide (a≠b))) w:=
 λc hf=>by
  have:(a != b)=decide (a≠b):=by by_cases hab:a=b<;>simp [hab]
  simp [execOp,ev_eval hf hx,ev_eval hf hy,eqGuard_at_int,binOp_neq,this]
theorem V.bits {q:IntKind} {op:BinOp} {x y:Operand} {a b c:Int} {t u:TypeId} (hx:ev e x=some (.int q a)) (hy:ev e y=some (.int q b))
 (hop:(binOp op t (.int q a) (.int q b))=pure (.int q c)) :
 OpV P n e w ⟨dst,.binOp op t x y u,ty,pos,af,g⟩ (.int q c) w:=
 λa hf=>by simp [execOp,ev_eval hf hx,ev_eval hf hy,eqGuard_at_int,hop]
theorem V.shl {q q':IntKind} {x y:Operand} {a b:Int} {t u:TypeId} (hx:ev e x=some (.int q a)) (hy:ev e y=some (.int q' b))
 (h0:0≤b) (h1:b≤q.bits) :
 OpV P n e w ⟨dst,.binOp .shl t x y u,ty,pos,af,g⟩ (.int q (q.wrap (a*2^b.toNat))) w:=
 λc hf=>by simp [execOp,ev_eval hf hx,ev_eval hf hy,eqGuard_shl,binOp_shl,shift_shl q q' a b h0 h1]
theorem V.shr {q q':IntKind} {x y:Operand} {a b:Int} {t u:TypeId} (hx:ev e x=some (.int q a)) (hy:ev e y=some (.int q' b))
 (h0:0≤b) (h1:b≤q.bits) :
 OpV P n e w ⟨dst,.binOp .shr t x y u,ty,pos,af,g⟩ (.int q (a/2^b.toNat)) w:=
 λc hf=>by simp [execOp,ev_eval hf hx,ev_eval hf hy,eqGuard_shr,binOp_shr,shift_shr q q' a b h0 h1]
theorem V.notB {x:Operand} {b:Bool} {t:TypeId} (hx:ev e x=some (.bool b)) :
 OpV P n e w ⟨dst,.unOp .not t x,ty,pos,af,g⟩ (.bool (!b)) w:=
 λc hf=>by simp [execOp,ev_eval hf hx,Op.unary]
theorem V.notD {x:Operand} {p:Prop} [Decidable p] {t:TypeId} (hx:ev e x=some (.bool (decide p))) :
 OpV P n e w ⟨dst,.unOp .not t x,ty,pos,af,g⟩ (.bool (decide (¬p))) w:=
 λc hf=>by simp [execOp,ev_eval hf hx,Op.unary]
theorem V.negI {q:IntKind} {x:Operand} {a:Int} {t:TypeId} (hx:ev e x=some (.int q a)) :
 OpV P n e w ⟨dst,.unOp .neg t x,ty,pos,af,g⟩ (.int q (q.wrap (0-a))) w:=
 λc hf=>by simp [execOp,ev_eval hf hx,Op.unary,Op.intArith]
theorem V.cvI {q q':IntKind} {x:Operand} {a:Int} {s t:TypeId} {ds:TypeDesc} (hs:P.underlying s=some ds) (ht:P.underlying t=some (.int q')) (hx:ev e x=some (.int q a))
 (hr:q'.wrap a=a) :
 OpV P n e w ⟨dst,.convert s t x,ty,pos,af,g⟩ (.int q' a) w:=
 λc hf=>by simp [execOp,ev_eval hf hx,convert,run_underlying hs,run_underlying ht,Conv.intToInt,hr]
theorem V.cvW {q q':IntKind} {x:Operand} {a:Int} {s t:TypeId} {ds:TypeDesc} (hs:P.underlying s=some ds) (ht:P.underlying t=some (.int q')) (hx:ev e x=some (.int q a)) :
 OpV P n e w ⟨dst,.convert s t x,ty,pos,af,g⟩ (.int q' (q'.wrap a)) w:=
 λc hf=>by simp [execOp,ev_eval hf hx,convert,run_underlying hs,run_underlying ht,Conv.intToInt]
theorem V.eqlS {x y:Operand} {a b:List UInt8} {t u:TypeId} (hx:ev e x=some (Str a)) (hy:ev e y=some (Str b)) :
 OpV P n e w ⟨dst,.binOp .eql t x y u,ty,pos,af,g⟩ (.bool (decide (a=b))) w:=
 λc hf=>by
  have:(a==b)=decide (a=b):=by by_cases hab:a=b<;>simp [hab]
  simp [execOp,ev_eval hf hx,ev_eval hf hy,eqGuard_at_string,binOp_string_eql,this]
theorem V.neqS {x y:Operand} {a b:List UInt8} {t u:TypeId} (hx:ev e x=some (Str a)) (hy:ev e y=some (Str b)) :
 OpV P n e w ⟨dst,.binOp .neq t x y u,ty,pos,af,g⟩ (.bool (decide (a≠b))) w:=
 λc hf=>by
  have:(!(a==b))=decide (a≠b):=by by_cases hab:a=b<;>simp [hab]
  simp [execOp,ev_eval hf hx,ev_eval hf hy,eqGuard_at_string,binOp_string_neq,this]
theorem V.lssS {x y:Operand} {a b:List UInt8} {t u:TypeId} (hx:ev e x=some (Str a)) (hy:ev e y=some (Str b)) :
 OpV P n e w ⟨dst,.binOp .lss t x y u,ty,pos,af,g⟩ (.bool (Op.bytesLess a b)) w:=
 λc hf=>by simp [execOp,ev_eval hf hx,ev_eval hf hy,eqGuard_at_string,binOp_string_lss]
theorem bytesLess_geq (a b:List UInt8):(!(Op.bytesLess a b||a==b))=Op.bytesLess b a:=by
 induction a generalizing b with
 | nil=>cases b<;>simp [Op.bytesLess]
 | cons x a ih=>
  cases b with
  | nil=>simp [Op.bytesLess]
  | cons y b=>
   have:=ih b;simp only [Op.bytesLess]
   by_cases hxy:x=y
   ·subst hxy
    have hlt:¬(x<x):=by simp [UInt8.lt_iff_toNat_lt]
    simp only [hlt,decide_false,Bool.false_or,BEq.rfl,Bool.true_and];rw [← this];simp
   ·have h1:(x==y)=false:=by simpa using hxy
    have h2:(y==x)=false:=by simpa using λhh=>hxy hh.symm
    have h3:(x::a==y::b)=false:=by simp [hxy]
    have h4:decide (x<y) = !decide (y<x):=by
     have hne:x.toNat≠y.toNat:=λhh=>hxy (UInt8.toNat_inj.1 hh)
     simp only [UInt8.lt_iff_toNat_lt]
     by_cases hh:x.toNat<y.toNat
     ·have:¬y.toNat<x.toNat:=by omega
      simp [hh,this]
     ·have:y.toNat<x.toNat:=by omega
      simp [hh,this]
    simp [h1,h2,h3,h4]
theorem V.gtrS {x y:Operand} {a b:List UInt8} {t u:TypeId} (hx:ev e x=some (Str a)) (hy:ev e y=some (Str b)) :
 OpV P n e w ⟨dst,.binOp .gtr t x y u,ty,pos,af,g⟩ (.bool (Op.bytesLess b a)) w:=
 λc hf=>by
  simp only [execOp,ev_eval hf hx,ev_eval hf hy,eqGuard_at_string,binOp,Op.stringOp,ByteArray.toList_mk,bytesLess_geq,Sem.run_bind,Sem.run_pure,Result.andThen_ok]
theorem V.catS {x y:Operand} {a b:List UInt8} {t u:TypeId} (hx:ev e x=some (Str a)) (hy:ev e y=some (Str b))
 (hb:a.length+b.length≤9223372036854775807) :
 OpV P n e w ⟨dst,.binOp .add t x y u,ty,pos,af,g⟩ (Str (a++b)) w:=
 λc hf=>by
  have hr:=run_string_add_sum (P:=P) (w:=w) (⟨a.toArray⟩:ByteArray) (⟨b.toArray⟩:ByteArray) (by simpa [ByteArray.size] using hb);simp only [execOp,ev_eval hf hx,ev_eval hf hy,eqGuard_at_string,binOp_string_add,Sem.run_bind,Sem.run_pure,Result.andThen_ok,hr,ByteArray.mk_append_mk]
theorem V.lenS {x:Operand} {a:List UInt8} {t:TypeId} (ht:P.underlying t=some .string) (hx:ev e x=some (Str a)) :
 OpV P n e w ⟨dst,.call { callee:=.builtin .len,args:=#[x],argTypes:=#[t] },ty,pos,af,g⟩ (.int .i64 a.length) w:=
 λc hf=>by simp [execOp,resolve,invoke,builtin,ev_eval hf hx,run_len_string,ht,ByteArray.size,goInt]
theorem V.lenV {x:Operand} {A:Option Addr} {m c:Nat} {t el:TypeId} (ht:P.underlying t=some (.slice el)) (hx:ev e x=some (.slice A m c)) :
 OpV P n e w ⟨dst,.call { callee:=.builtin .len,args:=#[x],argTypes:=#[t] },ty,pos,af,g⟩ (.int .i64 m) w:=
 λc hf=>by simp [execOp,resolve,invoke,builtin,ev_eval hf hx,Builtin.len_,run_underlying ht,goInt]
theorem V.idxS {x y:Operand} {a:List UInt8} {q:IntKind} {j:Int} {t:TypeId} (m:Nat) (ht:P.underlying t=some .string) (hx:ev e x=some (Str a)) (hy:ev e y=some (.int q j))
 (hj:j=m) (c:UInt8) (hc:a[m]?=some c) :
 OpV P n e w ⟨dst,.index t x y,ty,pos,af,g⟩ (.int .u8 c.toNat) w:=
 λb hf=>by
  subst hj
  have hlt:m<a.length:=by
   rcases Nat.lt_or_ge m a.length with hh|hh
   ·exact hh
   ·rw [List.getElem?_eq_none hh] at hc;cases hc
  have hg':(⟨a.toArray⟩:ByteArray)[m]?=some c:=by
   rw [ByteArray.getElem?_lt' _ _ (by simpa [ByteArray.size] using hlt)];rw [List.getElem?_eq_getElem hlt] at hc
   cases hc
   rfl
  simp [execOp,ev_eval hf hx,ev_eval hf hy,Instr.index,asIntOf,run_underlying ht,hg']
theorem sbound {q:IntKind} {m y:Nat} (code:BoundsCode) (h:m≤y):(Instr.sliceBound (.int q (m:Int)) y code).run P w=.ok m w:=by
 rw [run_sliceBound w q (m:Int) y code (by omega) (by omega)];simp
theorem V.cutS {x:Operand} {lo hi:Option Operand} {a:List UInt8} {t:TypeId} (p q:Nat) (ht:P.underlying t=some .string) (hx:ev e x=some (Str a))
 (hlo:match lo with | some y=>∃ j,ev e y=some (.int .i64 j)∧j=(p:Int) | none=>p=0) (hhi:match hi with | some y=>∃ j,ev e y=some (.int .i64 j)∧j=(q:Int) | none=>q=a.length) (h1:p≤q) (h2:q≤a.length) :
 OpV P n e w ⟨dst,.slice t x lo hi none,ty,pos,af,g⟩ (Str ((a.take q).drop p)) w:=
 λb hf=>by
  have hs:(⟨a.toArray⟩:ByteArray).size=a.length:=by simp [ByteArray.size]
  have hex:(⟨a.toArray⟩:ByteArray).extract p q=⟨((a.take q).drop p).toArray⟩:=by
   rw [ByteArray.extract_mk,List.drop_take]
  cases lo with
  | none=>
   cases hi with
   | none=>
    simp only at hlo hhi;subst hlo hhi;simp only [execOp,Option.map_none,ev_eval hf hx,Instr.sliceAt,run_underlying ht,Instr.slice,Instr.sliceBounds,Sem.run_bind,Sem.run_pure,Result.andThen_ok,Option.isSome_none,Bool.false_eq_true,if_false,hs,hex]
   | some y=>
    simp only at hlo hhi;obtain ⟨j,hy,rfl⟩:=hhi;subst hlo;simp only [execOp,Option.map_none,Option.map_some,ev_eval hf hx,ev_eval hf hy,Instr.sliceAt,run_underlying ht,Instr.slice,Instr.sliceBounds,Sem.run_bind,Sem.run_pure,Result.andThen_ok,Option.isSome_none,Bool.false_eq_true,if_false,hs];rw [sbound _ (by omega)];simp [hex]
  | some z=>
   cases hi with
   | none=>
    simp only at hlo hhi;obtain ⟨j,hz,rfl⟩:=hlo;subst hhi;simp only [execOp,Option.map_none,Option.map_some,ev_eval hf hx,ev_eval hf hz,Instr.sliceAt,run_underlying ht,Instr.slice,Instr.sliceBounds,Sem.run_bind,Sem.run_pure,Result.andThen_ok,Option.isSome_none,Bool.false_eq_true,if_false,hs];rw [sbound _ (by omega)];simp [hex]
   | some y=>
    simp only at hlo hhi;obtain ⟨j,hz,rfl⟩:=hlo;obtain ⟨j',hy,rfl⟩:=hhi;simp only [execOp,Option.map_none,Option.map_some,ev_eval hf hx,ev_eval hf hy,ev_eval hf hz,Instr.sliceAt,run_underlying ht,Instr.slice,Instr.sliceBounds,Sem.run_bind,Sem.run_pure,Result.andThen_ok,Option.isSome_none,Bool.false_eq_true,if_false,hs];rw [sbound _ h2];simp only [Result.andThen_ok];rw [sbound _ h1];simp [hex]
theorem V.neqB {x y:Operand} {a b:Bool} {t u:TypeId} (ht:P.underlying t=some .bool) (hx:ev e x=some (.bool a)) (hy:ev e y=some (.bool b)) :
 OpV P n e w ⟨dst,.binOp .neq t x y u,ty,pos,af,g⟩ (.bool (decide (a≠b))) w:=
 λc hf=>by
  have:(!(a==b))=decide (a≠b):=by cases a<;>cases b<;>rfl
  simp [execOp,ev_eval hf hx,ev_eval hf hy,eqGuard_at_bool,run_neq_bool w t a b ht,this]
theorem run_eq_ptr_nil {t el:TypeId} (ht:P.underlying t=some (.pointer el)) (p:Option Addr):(Op.equal t (.pointer p) (.pointer none)).run P w=.ok p.isNone w:=by
 have h:∀ m:Nat,(Op.equalIn (m+1) t (.pointer p) (.pointer none)).run P w=.ok p.isNone w:=λm=>by cases p<;>simp [Op.equalIn,run_underlying ht]
 exact h 9999
theorem run_eq_slice_nil {t el:TypeId} (ht:P.underlying t=some (.slice el)) (A:Option Addr) (m c:Nat):(Op.equal t (.slice A m c) (.slice none 0 0)).run P w=.ok A.isNone w:=by
 have h:∀ q:Nat,(Op.equalIn (q+1) t (.slice A m c) (.slice none 0 0)).run P w=.ok A.isNone w:=λq=>by cases A<;>simp [Op.equalIn,run_underlying ht]
 exact h 9999
theorem run_eq_map_nil {t q el:TypeId} (ht:P.underlying t=some (.map q el)) (p:Option Nat):(Op.equal t (.map p) (.map none)).run P w=.ok p.isNone w:=by
 have h:∀ m:Nat,(Op.equalIn (m+1) t (.map p) (.map none)).run P w=.ok p.isNone w:=λm=>by cases p<;>simp [Op.equalIn,run_underlying ht]
 exact h 9999
theorem V.eqlP {x y:Operand} {p:Option Addr} {t el u:TypeId} (ht:P.underlying t=some (.pointer el)) (hx:ev e x=some (.pointer p)) (hy:ev e y=some (.pointer none)) :
 OpV P n e w ⟨dst,.binOp .eql t x y u,ty,pos,af,g⟩ (.bool p.isNone) w:=
 λc hf=>by simp [execOp,ev_eval hf hx,ev_eval hf hy,eqGuard_at_pointer,binOp,run_eq_ptr_nil ht]
theorem V.neqP {x y:Operand} {p:Option Addr} {t el u:TypeId} (ht:P.underlying t=some (.pointer el)) (hx:ev e x=some (.pointer p)) (hy:ev e y=some (.pointer none)) :
 OpV P n e w ⟨dst,.binOp .neq t x y u,ty,pos,af,g⟩ (.bool p.isSome) w:=
 λc hf=>by
  have hb:(!p.isNone)=p.isSome:=by cases p<;>rfl
  simp [execOp,ev_eval hf hx,ev_eval hf hy,eqGuard_at_pointer,binOp,run_eq_ptr_nil ht,-Option.not_isNone,hb]
theorem V.eqlV {x y:Operand} {A:Option Addr} {m c:Nat} {t el u:TypeId} (ht:P.underlying t=some (.slice el)) (hx:ev e x=some (.slice A m c)) (hy:ev e y=some (.slice none 0 0)) :
 OpV P n e w ⟨dst,.binOp .eql t x y u,ty,pos,af,g⟩ (.bool A.isNone) w:=
 λc hf=>by simp [execOp,ev_eval hf hx,ev_eval hf hy,eqGuard_at_slice,binOp,run_eq_slice_nil ht]
theorem V.ext {x:Operand} {vs:Array Value} {j:Nat} {v:Value} (hx:ev e x=some (.tuple vs)) (hv:vs[j]?=some v) :
 OpV P n e w ⟨dst,.extract x j,ty,pos,af,g⟩ (v) w:=
 λc hf=>by simp [execOp,ev_eval hf hx,Instr.extract,hv]
theorem V.nil {x:Operand} {p:Addr} (hx:ev e x=some (.pointer (some p))) :
 OpV P n e w ⟨dst,.nilCheck x,ty,pos,af,g⟩ (.pointer (some p)) w:=
 λc hf=>by simp [execOp,ev_eval hf hx]
theorem V.mini {x y:Operand} {q q':IntKind} {a b:Int} {ts:Array TypeId} (hx:ev e x=some (.int q a)) (hy:ev e y=some (.int q' b)) :
 OpV P n e w ⟨dst,.call { callee:=.builtin .min,args:=#[x,y],argTypes:=ts },ty,pos,af,g⟩ (.int q (min a b)) w:=
 λc hf=>by
  have:(if b<a then b else a)=min a b:=by split<;>omega
  simp [execOp,resolve,invoke,builtin,ev_eval hf hx,ev_eval hf hy,run_min_int2,this]
theorem V.maxi {x y:Operand} {q q':IntKind} {a b:Int} {ts:Array TypeId} (hx:ev e x=some (.int q a)) (hy:ev e y=some (.int q' b)) :
 OpV P n e w ⟨dst,.call { callee:=.builtin .max,args:=#[x,y],argTypes:=ts },ty,pos,af,g⟩ (.int q (max a b)) w:=
 λc hf=>by
  have:(if a<b then b else a)=max a b:=by split<;>omega
  simp [execOp,resolve,invoke,builtin,ev_eval hf hx,ev_eval hf hy,run_max_int2,this]
theorem V.mkI {x:Operand} {v:Value} {t:TypeId} {ds:TypeDesc} (ht:P.underlying t=some ds) (hds:∀ ms,ds≠.interface ms) (hx:ev e x=some v) :
 OpV P n e w ⟨dst,.makeInterface t x,ty,pos,af,g⟩ (.iface t v) w:=
 λc hf=>by
  have:(Instr.makeInterface t v).run P w=.ok (.iface t v) w:=by
   simp only [Instr.makeInterface,Sem.run_bind,run_underlying ht,Result.andThen_ok]
   cases ds<;>first | rfl | exact absurd rfl (hds _)
  simp [execOp,ev_eval hf hx,this]
def evs (e:Env):List Operand→Option (List Value)
 | []=>some []
 | x::r=>match ev e x,evs e r with
  | some v,some vs=>some (v::vs)
  | _,_=>none
theorem evs_map {a:Act} (hf:Fits e n a.tmps):∀ {l:List Operand} {vs:List Value},evs e l=some vs→l.map a.eval=vs
 | [],vs,h=>by cases h;rfl
 | x::r,vs,h=>by
  simp only [evs] at h
  split at h
  ·rename_i v us hv hr
   cases h
   simp [ev_eval hf hv,evs_map hf hr]
  ·cases h
theorem V.mkF {fn:Fn} {xs:List Operand} {vs:List Value} (hx:evs e xs=some vs) :
 OpV P n e w ⟨dst,.makeFunc fn #[] xs.toArray,ty,pos,af,g⟩ (.func fn #[] vs.toArray) w:=
 λc hf=>by simp [execOp,Instr.makeFunc,evs_map hf hx]
theorem run_callFunc {fn : Func} {c : Code} {gg : FuncId} {args : Array Value} (hfn : P.funcs[gg]? = some fn) (hb : fn.body = some c) (hnm : (fn.name == "runtime.NumGoroutine") = false) : (callFunc gg args).run P w = .ok (.enter gg args) w := by
 have hnm' : ¬ fn.name = "runtime.NumGoroutine" := by simpa using hnm
 simp [callFunc,hfn,hb,hnm']
theorem Rn.call {gg:FuncId} {fn:Func} {c:Code} {xs:List Operand} {ts:Array TypeId} {vs:List Value} {R':Ending→World→Prop}
 (ho:ops[i]?=some ⟨some d,.call { callee:=.value (.func gg),args:=xs.toArray,argTypes:=ts },ty,pos,af,g⟩) (hg:gok e ops g=true) (hn:Nat.blt d n=true)
 (hfn : P.funcs[gg]? = some fn) (hb : fn.body = some c) (hnm : (fn.name == "runtime.NumGoroutine") = false) (hx : evs e xs = some vs) (hc : Calls P gg vs.toArray w R')
 (h:∀ x w',R' x w'→∃ v,x=.returned v∧Rn P f n R (.inRegion ops rest::k) ((d,v)::e) w'):Rn P f n R (.inRegion ops (i::rest)::k) e w:=
 Rn.opC (g:=gg) (args:=vs.toArray) ho hg rfl hn (λa hf=>by
  simp [execOp,resolve,Act.eval,Deferred.ofValue,invoke,run_callFunc hfn hb hnm,evs_map hf hx]) hc h
theorem Rn.callV {gg:FuncId} {fn:Func} {c:Code} {y:Operand} {cs:List Value} {xs:List Operand} {ts:Array TypeId} {vs:List Value} {R':Ending→World→Prop}
 (ho:ops[i]?=some ⟨some d,.call { callee:=.value y,args:=xs.toArray,argTypes:=ts },ty,pos,af,g⟩) (hg:gok e ops g=true) (hn:Nat.blt d n=true)
 (hy : ev e y = some (.func (.func gg) #[] cs.toArray)) (hfn : P.funcs[gg]? = some fn) (hb : fn.body = some c) (hnm : (fn.name == "runtime.NumGoroutine") = false) (hx : evs e xs = some vs) (hc : Calls P gg (vs ++ cs).toArray w R')
 (h:∀ x w',R' x w'→∃ v,x=.returned v∧Rn P f n R (.inRegion ops rest::k) ((d,v)::e) w'):Rn P f n R (.inRegion ops (i::rest)::k) e w:=
 Rn.opC (g:=gg) (args:=(vs++cs).toArray) ho hg rfl hn (λa hf=>by
  simp [execOp,resolve,ev_eval hf hy,Deferred.ofValue,invoke,run_callFunc hfn hb hnm,evs_map hf hx]) hc h
end
end Go.Wk
set_option linter.unusedVariables false
set_option linter.unusedSimpArgs false
namespace Go.Wk
open Go Go.RowKit
structure Fr (S:Nat→Prop) (w w':World):Prop where
 os:w'.os=w.os
 tape:w'.tape=w.tape
 output:w'.output=w.output
 size:w.heap.size≤w'.heap.size
 keep:∀ b,b<w.heap.size→¬S b→w'.heap[b]?=w.heap[b]?
abbrev Ext (w w':World):Prop:=Fr (λ_=>False) w w'
theorem Fr.refl (S:Nat→Prop) (w:World):Fr S w w:=⟨rfl,rfl,rfl,Nat.le_refl _,λ_ _ _=>rfl⟩
theorem Fr.mono {S T:Nat→Prop} {w w':World} (h:Fr S w w') (hs:∀ b,S b→T b):Fr T w w':=⟨h.os,h.tape,h.output,h.size,λb hb hn=>h.keep b hb (λhh=>hn (hs b hh))⟩
theorem Fr.trans {S:Nat→Prop} {a b c:World} (h:Fr S a b) (g:Fr S b c):Fr S a c:=
 ⟨g.os.trans h.os,g.tape.trans h.tape,g.output.trans h.output,Nat.le_trans h.size g.size,λi hi hn=>(g.keep i (Nat.lt_of_lt_of_le hi h.size) hn).trans (h.keep i hi hn)⟩
theorem Fr.trans' {S T:Nat→Prop} {a b c:World} (h:Fr S a b) (g:Fr T b c) (ht:∀ x,T x→S x∨a.heap.size≤x):Fr S a c:=
 ⟨g.os.trans h.os,g.tape.trans h.tape,g.output.trans h.output,Nat.le_trans h.size g.size,λi hi hn=>(g.keep i (Nat.lt_of_lt_of_le hi h.size) (λhh=>by
  rcases ht i hh with h1|h1
  ·exact hn h1
  ·omega)).trans (h.keep i hi hn)⟩
theorem Ext.fr {S:Nat→Prop} {w w':World} (h:Ext w w'):Fr S w w':=h.mono λ_ hh=>hh.elim
theorem Ext.refl (w:World):Ext w w:=Fr.refl _ w
theorem Ext.alloc (w:World) (o:Obj):Ext w (w.alloc o):=⟨rfl,rfl,rfl,by simp,λb hb _=>Below.heap_alloc w o b hb⟩
theorem Ext.drew (w:World):Ext w w.drew:=⟨rfl,rfl,rfl,Nat.le_refl _,λ_ _ _=>rfl⟩
theorem Ext.below {w w':World} (h:Ext w w'):Below w.heap.size w w':=⟨h.os,h.tape,h.output,h.size,λb hb=>h.keep b hb (λhh=>hh)⟩
theorem Ext.of_below {w w':World} (h:Below w.heap.size w w'):Ext w w':=⟨h.os,h.tape,h.output,h.size,λb hb _=>h.block b hb⟩
theorem Fr.setCell (w:World) (a:Addr) (v:Value):Fr (λb=>b=a.block) w (w.setCell a v):=⟨rfl,rfl,rfl,by simp,λb _ hn=>Below.heap_setCell w a v b hn⟩
def Blk (w:World) (b:Nat) (t:TypeId) (cs:List Value):Prop:=w.heap[b]?=some (.cells cs.toArray t (0,0))
theorem Blk.lt {w:World} {b:Nat} {t:TypeId} {cs:List Value} (h:Blk w b t cs):b<w.heap.size:=by
 rcases Nat.lt_or_ge b w.heap.size with hlt|hge
 ·exact hlt
 ·unfold Blk at h;rw [Array.getElem?_eq_none hge] at h;cases h
theorem Blk.fr {S:Nat→Prop} {w w':World} {b:Nat} {t:TypeId} {cs:List Value} (h:Blk w b t cs) (hf:Fr S w w') (hn:¬S b):Blk w' b t cs:=(hf.keep b h.lt hn).trans h
theorem Blk.ext {w w':World} {b:Nat} {t:TypeId} {cs:List Value} (h:Blk w b t cs) (hf:Ext w w'):Blk w' b t cs:=h.fr hf (λhh=>hh)
theorem Blk.cell {w:World} {b:Nat} {t:TypeId} {cs:List Value} (h:Blk w b t cs) (o:Nat):w.cell? ⟨b,o,none⟩=cs[o]?:=by
 unfold Blk at h;simp [World.cell?,h]
theorem Blk.frozen {w:World} {b:Nat} {t:TypeId} {cs:List Value} (h:Blk w b t cs) (o:Nat):w.frozen? ⟨b,o,none⟩=false:=by
 unfold Blk at h;simp [World.frozen?,h]
theorem Blk.new (w:World) (t:TypeId) (cs:List Value):Blk (w.alloc (.cells cs.toArray t)) w.heap.size t cs:=heap_alloc_new w _
theorem Blk.ne {w:World} {b b':Nat} {t t':TypeId} {cs cs':List Value} (h:Blk w b t cs) (h':Blk w b' t' cs') (hne:t≠t'):b≠b':=by
 rintro rfl;unfold Blk at h h';rw [h] at h'
 injection h' with h'
 injection h' with _ ht
 exact hne ht
def Rd (w:World) (b o:Nat) (vs:List Value):Prop:=∀ j v,vs[j]?=some v→w.cell? ⟨b,o+j,none⟩=some v
theorem Rd.keep {w w':World} {b o:Nat} {vs:List Value} (h:Rd w b o vs) (hk:b<w.heap.size→w'.heap[b]?=w.heap[b]?):Rd w' b o vs:=by
 intro j v hv;have hc:=h j v hv;have hlt:=World.block_lt_of_cell? w _ hc;rw [World.cell?_of_block (w:=w) (hk hlt)];exact hc
theorem Rd.fr {S:Nat→Prop} {w w':World} {b o:Nat} {vs:List Value} (h:Rd w b o vs) (hf:Fr S w w') (hn:¬S b):Rd w' b o vs:=h.keep λhb=>hf.keep b hb hn
theorem Rd.ext {w w':World} {b o:Nat} {vs:List Value} (h:Rd w b o vs) (hf:Ext w w'):Rd w' b o vs:=h.fr hf λhh=>hh
theorem Blk.rd {w:World} {b:Nat} {t:TypeId} {cs:List Value} (h:Blk w b t cs):Rd w b 0 cs:=λj v hv=>by rw [Nat.zero_add,h.cell];exact hv
structure Rep (α:Type) where
 sz:Nat
 rel:(Nat→Prop)→World→List Value→α→Prop
 len:∀ {D w vs x},rel D w vs x→vs.length=sz
 one:∀ {D w vs x},rel D w vs x→∀ u∈vs,u.oneCell'=true
 keep:∀ {D w w' vs x},rel D w vs x→(∀ b,D b→b<w.heap.size→w'.heap[b]?=w.heap[b]?)→rel D w' vs x
 mono:∀ {D D' w vs x},rel D w vs x→(∀ b,D b→D' b)→rel D' w vs x
 pos:0<sz
 bd:∀ {D w vs x},rel D w vs x→rel (λb=>D b∧b<w.heap.size) w vs x
section
variable {α:Type} {rep:Rep α} {D D':Nat→Prop} {w w':World}
theorem Rep.fr {S:Nat→Prop} {vs:List Value} {x:α} (h:rep.rel D w vs x) (hf:Fr S w w') (hn:∀ b,D b→¬S b):rep.rel D w' vs x:=rep.keep h λb hb hlt=>hf.keep b hlt (hn b hb)
theorem Rep.ext {vs:List Value} {x:α} (h:rep.rel D w vs x) (hf:Ext w w'):rep.rel D w' vs x:=Rep.fr h hf λ_ _ hh=>hh
def Rep.flat (sz:Nat) (enc:α→List Value) (ok:α→Prop) (hl:∀ x,(enc x).length=sz) (h1:∀ x,∀ u∈enc x,u.oneCell'=true) (hp:0<sz):Rep α where
 sz:=sz
 rel:=λ_ _ vs x=>vs=enc x∧ok x
 len:=λ⟨h,_⟩=>by rw [h];exact hl _
 one:=λ⟨h,_⟩=>by rw [h];exact h1 _
 keep:=λh _=>h
 mono:=λh _=>h
 pos:=hp
 bd:=λh=>h
def Sl (D:Nat→Prop) (w:World) (A:Option Addr) (rep:Rep α) (xs:List α):Prop:=
 xs≠[]→∃ b o,A=some ⟨b,o,none⟩∧D b∧∀ k x,xs[k]?=some x→∃ vs,Rd w b (o+k*rep.sz) vs∧rep.rel D w vs x
theorem Sl.nil (D:Nat→Prop) (w:World) (A:Option Addr) (rep:Rep α):Sl D w A rep []:=λh=>(h rfl).elim
theorem Sl.keep {A:Option Addr} {xs:List α} (h:Sl D w A rep xs) (hk:∀ b,D b→b<w.heap.size→w'.heap[b]?=w.heap[b]?):Sl D w' A rep xs:=λhne=>by
 obtain ⟨b,o,hA,hD,he⟩:=h hne;exact ⟨b,o,hA,hD,λk x hx=>let ⟨vs,h1,h2⟩:=he k x hx;⟨vs,h1.keep (hk b hD),rep.keep h2 hk⟩⟩
theorem Sl.mono {A:Option Addr} {xs:List α} (h:Sl D w A rep xs) (hd:∀ b,D b→D' b):Sl D' w A rep xs:=λhne=>by
 obtain ⟨b,o,hA,hD,he⟩:=h hne;exact ⟨b,o,hA,hd b hD,λk x hx=>let ⟨vs,h1,h2⟩:=he k x hx;⟨vs,h1,rep.mono h2 hd⟩⟩
theorem Sl.bd {A:Option Addr} {xs:List α} (h:Sl D w A rep xs):Sl (λb=>D b∧b<w.heap.size) w A rep xs:=λhne=>by
 obtain ⟨b,o,hA,hD,he⟩:=h hne;refine ⟨b,o,hA,⟨hD,?_⟩,λk x hx=>let ⟨vs,h1,h2⟩:=he k x hx;⟨vs,h1,rep.bd h2⟩⟩
 cases xs with
 | nil=>exact (hne rfl).elim
 | cons x r=>
  obtain ⟨vs,h1,h2⟩:=he 0 x rfl
  cases vs with
  | nil=>exact absurd (rep.len h2) (by have:=rep.pos;simp only [List.length_nil];omega)
  | cons v t=>exact World.block_lt_of_cell? w _ (h1 0 v rfl)
theorem Sl.fr {S:Nat→Prop} {A:Option Addr} {xs:List α} (h:Sl D w A rep xs) (hf:Fr S w w') (hn:∀ b,D b→¬S b):Sl D w' A rep xs:=h.keep λb hb hlt=>hf.keep b hlt (hn b hb)
theorem Sl.ext {A:Option Addr} {xs:List α} (h:Sl D w A rep xs) (hf:Ext w w'):Sl D w' A rep xs:=h.fr hf λ_ _ hh=>hh
theorem Sl.get {A:Option Addr} {xs:List α} (h:Sl D w A rep xs) {k:Nat} {x:α} (hx:xs[k]?=some x):∃ b o vs,A=some ⟨b,o,none⟩∧D b∧Rd w b (o+k*rep.sz) vs∧rep.rel D w vs x:=by
 obtain ⟨b,o,hA,hD,he⟩:=h (by rintro rfl;simp at hx);obtain ⟨vs,h1,h2⟩:=he k x hx;exact ⟨b,o,vs,hA,hD,h1,h2⟩
theorem Addr.add_none (b o m:Nat):(⟨b,o,none⟩:Addr).add m=⟨b,o+m,none⟩:=Addr.add_lit b o m
theorem Sl.cut {A:Option Addr} {xs:List α} (h:Sl D w A rep xs) (p q:Nat) {c:Nat} (hq:q≤xs.length) (hc:q≤c):Sl D w (if c=p then A else A.map (·.add (p*rep.sz))) rep ((xs.take q).drop p):=λhne=>by
 obtain ⟨b,o,rfl,hD,he⟩:=h (by rintro rfl;simp at hne)
 have hpq:p<q:=by
  rcases Nat.lt_or_ge p q with hh|hh
  ·exact hh
  ·exact (hne (by rw [List.drop_eq_nil_iff,List.length_take];omega)).elim
 rw [if_neg (by omega)];refine ⟨b,o+p*rep.sz,by simp [Addr.add_none],hD,λk x hx=>?_⟩
 have hx':xs[p+k]?=some x:=by
  rw [List.getElem?_drop,List.getElem?_take] at hx
  split at hx
  ·exact hx
  ·cases hx
 obtain ⟨vs,h1,h2⟩:=he _ x hx';refine ⟨vs,?_,h2⟩
 have:o+p*rep.sz+k*rep.sz=o+(p+k)*rep.sz:=by rw [Nat.add_mul];omega
 rw [this];exact h1
def Rep.sl (rep:Rep α):Rep (List α) where
 sz:=1
 rel:=λD w vs xs=>∃ A c,vs=[.slice A xs.length c]∧xs.length≤c∧c≤maxLen∧Sl D w A rep xs
 len:=λ⟨_,_,h,_⟩=>by rw [h];rfl
 one:=λ⟨_,_,h,_⟩=>by rw [h];simp [Value.oneCell']
 keep:=λ⟨A,c,h1,h2,h3,h4⟩ hk=>⟨A,c,h1,h2,h3,h4.keep hk⟩
 mono:=λ⟨A,c,h1,h2,h3,h4⟩ hd=>⟨A,c,h1,h2,h3,h4.mono hd⟩
 pos:=Nat.one_pos
 bd:=λ⟨A,c,h1,h2,h3,h4⟩=>⟨A,c,h1,h2,h3,h4.bd⟩
def Rep.two {β:Type} (r:Rep α) (s:Rep β):Rep (α×β) where
 sz:=r.sz+s.sz
 rel:=λD w vs x=>∃ us ts,vs=us++ts∧r.rel D w us x.1∧s.rel D w ts x.2
 len:=λ⟨us,ts,h,h1,h2⟩=>by rw [h,List.length_append,r.len h1,s.len h2]
 one:=λ⟨us,ts,h,h1,h2⟩=>by rw [h];intro u hu;rcases List.mem_append.1 hu with hh | hh;exact r.one h1 u hh;exact s.one h2 u hh
 keep:=λ⟨us,ts,h,h1,h2⟩ hk=>⟨us,ts,h,r.keep h1 hk,s.keep h2 hk⟩
 mono:=λ⟨us,ts,h,h1,h2⟩ hd=>⟨us,ts,h,r.mono h1 hd,s.mono h2 hd⟩
 pos:=Nat.add_pos_left r.pos _
 bd:=λ⟨us,ts,h,h1,h2⟩=>⟨us,ts,h,r.bd h1,s.bd h2⟩
def Rep.map {β:Type} (g:β→α) (r:Rep α):Rep β where
 sz:=r.sz
 rel:=λD w vs x=>r.rel D w vs (g x)
 len:=r.len
 one:=r.one
 keep:=r.keep
 mono:=r.mono
 pos:=r.pos
 bd:=r.bd
def Own (B:Nat) (D:Nat→Prop) (w:World) (et:TypeId) (A:Option Addr) (c:Nat) (rep:Rep α) (xs:List α):Prop:=
 xs.length≤c∧c≤maxLen∧((A=none∧c=0) ∨
  ∃ (g:Nat) (cs:List Value) (vss:List (List Value)),A=some ⟨g,0,none⟩∧B≤g∧Blk w g et cs∧c*rep.sz≤cs.length∧vss.length=xs.length ∧
   (∀ (k:Nat) (vs:List Value) (x:α),vss[k]?=some vs→xs[k]?=some x→rep.rel D w vs x)∧cs.take (xs.length*rep.sz)=vss.flatten)
theorem Own.nil (B:Nat) (D:Nat→Prop) (w:World) (et:TypeId) (rep:Rep α):Own B D w et none 0 rep []:=⟨Nat.le_refl _,Nat.zero_le _,.inl ⟨rfl,rfl⟩⟩
def ob (A:Option Addr):Nat→Prop:=λb=>A.map (·.block)=some b
section
variable {B:Nat} {et:TypeId} {A:Option Addr} {c:Nat} {xs:List α}
theorem Own.le (h:Own B D w et A c rep xs):xs.length≤c∧c≤maxLen:=⟨h.1,h.2.1⟩
theorem Own.base (h:Own B D w et A c rep xs):∀ b,ob A b→B≤b∧b<w.heap.size:=by
 intro b hb
 rcases h.2.2 with ⟨rfl,_⟩|⟨g,cs,vss,rfl,h1,h2,_⟩
 ·cases hb
 ·cases hb;exact ⟨h1,h2.lt⟩
theorem Own.fr {S:Nat→Prop} (h:Own B D w et A c rep xs) (hf:Fr S w w') (hn:∀ b,D b→¬S b) (ho:∀ b,ob A b→¬S b):Own B D w' et A c rep xs:=by
 refine ⟨h.1,h.2.1,?_⟩
 rcases h.2.2 with h0|⟨g,cs,vss,rfl,h1,h2,h3,h4,h5,h6⟩
 ·exact .inl h0
 ·exact .inr ⟨g,cs,vss,rfl,h1,h2.fr hf (ho g rfl),h3,h4,λk vs x hv hx=>Rep.fr (h5 k vs x hv hx) hf hn,h6⟩
theorem Own.ext (h:Own B D w et A c rep xs) (hf:Ext w w'):Own B D w' et A c rep xs:=h.fr hf (λ_ _ hh=>hh) (λ_ _ hh=>hh)
theorem Own.mono (h:Own B D w et A c rep xs) (hd:∀ b,D b→D' b):Own B D' w et A c rep xs:=by
 refine ⟨h.1,h.2.1,?_⟩
 rcases h.2.2 with h0|⟨g,cs,vss,rfl,h1,h2,h3,h4,h5,h6⟩
 ·exact .inl h0
 ·exact .inr ⟨g,cs,vss,rfl,h1,h2,h3,h4,λk vs x hv hx=>rep.mono (h5 k vs x hv hx) hd,h6⟩
theorem flatten_get (m:Nat):∀ (vss:List (List Value)) (hl:∀ vs∈vss,vs.length=m) (k:Nat) (vs:List Value) (_:vss[k]?=some vs) (j:Nat) (v:Value) (_:vs[j]?=some v),vss.flatten[k*m+j]?=some v
 | [],_,k,vs,h,_,_,_=>by simp at h
 | us::r,hl,0,vs,h,j,v,hv=>by
  simp at h;subst h;rw [List.flatten_cons,Nat.zero_mul,Nat.zero_add]
  have:j<us.length:=by
   rcases Nat.lt_or_ge j us.length with hh|hh
   ·exact hh
   ·rw [List.getElem?_eq_none hh] at hv;cases hv
  rw [List.getElem?_append_left this];exact hv
 | us::r,hl,k+1,vs,h,j,v,hv=>by
  have hu:=hl us (by simp);rw [List.flatten_cons,List.getElem?_append_right (by rw [hu,Nat.add_mul];omega),hu]
  have:(k+1)*m+j-m=k*m+j:=by rw [Nat.add_mul];omega
  rw [this];exact flatten_get m r (λvs hvs=>hl vs (by simp [hvs])) k vs (by simpa using h) j v hv
theorem lt_of_get {β:Type} {l:List β} {k:Nat} {x:β} (h:l[k]?=some x):k<l.length:=by
 rcases Nat.lt_or_ge k l.length with hh|hh
 ·exact hh
 ·rw [List.getElem?_eq_none hh] at h;cases h
theorem lens_of {vss:List (List Value)} (h2:vss.length=xs.length) (h3:∀ (k:Nat) (vs:List Value) (x:α),vss[k]?=some vs→xs[k]?=some x→rep.rel D w vs x):∀ vs∈vss,vs.length=rep.sz:=by
 intro vs hvs;obtain ⟨k,hk⟩:=List.mem_iff_getElem?.1 hvs
 have hk':k<xs.length:=by rw [← h2];exact lt_of_get hk
 exact rep.len (h3 k vs xs[k] hk (List.getElem?_eq_getElem hk'))
theorem ones_of {vss:List (List Value)} (h2:vss.length=xs.length) (h3:∀ (k:Nat) (vs:List Value) (x:α),vss[k]?=some vs→xs[k]?=some x→rep.rel D w vs x):∀ u∈vss.flatten,u.oneCell'=true:=by
 intro u hu;obtain ⟨vs,hvs,hu⟩:=List.mem_flatten.1 hu;obtain ⟨k,hk⟩:=List.mem_iff_getElem?.1 hvs
 have hk':k<xs.length:=by rw [← h2];exact lt_of_get hk
 exact rep.one (h3 k vs xs[k] hk (List.getElem?_eq_getElem hk')) u hu
theorem length_flat (m:Nat):∀ l:List (List Value),(∀ us∈l,us.length=m)→l.flatten.length=l.length*m
 | [],_=>by simp
 | u::r,h=>by rw [List.flatten_cons,List.length_append,length_flat m r (λus hus=>h us (by simp [hus])),h u (by simp),List.length_cons,Nat.add_mul];omega
theorem Own.sl (h:Own B D w et A c rep xs):Sl (λb=>D b∨ob A b) w A rep xs:=λhne=>by
 rcases h.2.2 with ⟨rfl,hc⟩|⟨g,cs,vss,rfl,h1,h2,h3,h4,h5,h6⟩
 ·exact (hne (List.eq_nil_of_length_eq_zero (by have:=h.1;omega))).elim
 ·refine ⟨g,0,rfl,.inr rfl,λk x hx=>?_⟩
  have hk:k<vss.length:=by rw [h4];exact lt_of_get hx
  have hlen:=lens_of h4 h5;refine ⟨vss[k],λj v hv=>?_,rep.mono (h5 k _ x (List.getElem?_eq_getElem hk) hx) λ_ hd=>.inl hd⟩;have hfl:=flatten_get rep.sz vss hlen k _ (List.getElem?_eq_getElem hk) j v hv;rw [← h6,List.getElem?_take] at hfl
  split at hfl
  ·rw [Nat.zero_add,h2.cell];exact hfl
  ·cases hfl
end
end
section
variable {P:Program} {f:FuncId} {n:Nat} {R:Ending→World→Prop} {k:List Item} {e:Env} {w:World}
variable {ops:Array Oper} {i:Nat} {rest:List Nat} {d:Nat} {dst:Option Nat} {ty:TypeId} {pos:String} {af:Array Edge} {g:Option (Nat×Bool)}
theorem V.alloc {t:TypeId} {z:Value} {cs:List Value} (hz:∀ w,(zeroValue t).run P w=.ok z w) (hc:z.cells=cs.toArray) :
 OpV P n e w ⟨dst,.alloc t,ty,pos,af,g⟩ (.pointer (some ⟨w.heap.size,0,none⟩)) (w.alloc (.cells cs.toArray t)):=λa hf=>by simp [execOp,Instr.alloc,hz,newVar,newRow,hc]
theorem Rn.alloc {t:TypeId} {z:Value} {cs:List Value} (ho:ops[i]?=some ⟨some d,.alloc t,ty,pos,af,g⟩) (hg:gok e ops g=true) (hn:Nat.blt d n=true) (hz:∀ w,(zeroValue t).run P w=.ok z w) (hc:z.cells=cs.toArray)
 (h:∀ b w',b=w.heap.size→Blk w' b t cs→Ext w w'→Rn P f n R (.inRegion ops rest::k) ((d,.pointer (some ⟨b,0,none⟩))::e) w'):Rn P f n R (.inRegion ops (i::rest)::k) e w:=
 Rn.opV ho hg rfl hn (V.alloc hz hc) (h w.heap.size (w.alloc (.cells cs.toArray t)) rfl (Blk.new w t cs) (Ext.alloc w _))
theorem V.box {t:TypeId} {x:Operand} {v:Value} {cs:List Value} (hx:ev e x=some v) (hc:v.cells=cs.toArray) :
 OpV P n e w ⟨dst,.box t x,ty,pos,af,g⟩ (.pointer (some ⟨w.heap.size,0,none⟩)) (w.alloc (.cells cs.toArray t)):=λa hf=>by simp [execOp,ev_eval hf hx,Instr.box,newVar,newRow,hc]
theorem Rn.box {t:TypeId} {x:Operand} {v:Value} {cs:List Value} (ho:ops[i]?=some ⟨some d,.box t x,ty,pos,af,g⟩) (hg:gok e ops g=true) (hn:Nat.blt d n=true) (hx:ev e x=some v) (hc:v.cells=cs.toArray)
 (h:∀ b w',b=w.heap.size→Blk w' b t cs→Ext w w'→Rn P f n R (.inRegion ops rest::k) ((d,.pointer (some ⟨b,0,none⟩))::e) w'):Rn P f n R (.inRegion ops (i::rest)::k) e w:=
 Rn.opV ho hg rfl hn (V.box hx hc) (h w.heap.size (w.alloc (.cells cs.toArray t)) rfl (Blk.new w t cs) (Ext.alloc w _))
theorem V.fa {s:TypeId} {x:Operand} {fs:Array Field} {fd:Field} {m b o sz:Nat} (hs:P.underlying s=some (.struct fs)) (hfd:fs[m]?=some fd)
 (hsz:∀ w,(sizeOf fd.type).run P w=.ok sz w) (h0:Nat.beq sz 0=false) (hx:ev e x=some (.pointer (some ⟨b,o,none⟩))) :
 OpV P n e w ⟨dst,.fieldAddr s x m,ty,pos,af,g⟩ (.pointer (some ⟨b,o+fd.offset,none⟩)) w:=
 λa hf=>by
  have hsz0:sz≠0:=λhh=>by subst hh;cases h0
  simp [execOp,ev_eval hf hx,Instr.fieldAt,run_underlying hs,hfd,Instr.sureAddr,fieldPlace,hsz,hsz0,Addr.add_none]
theorem V.ld {t:TypeId} {x:Operand} {b o:Nat} {v:Value} (ha:∀ w,(isAgg t).run P w=.ok false w) (hx:ev e x=some (.pointer (some ⟨b,o,none⟩)))
 (hc:w.cell? ⟨b,o,none⟩=some v) :
 OpV P n e w ⟨dst,.load t x,ty,pos,af,g⟩ (v) w:=
 λa hf=>by simp [execOp,ev_eval hf hx,Instr.loadAt,Instr.sureAddr,loadVar,ha,hc]
theorem V.ldB {t:TypeId} {x:Operand} {b o:Nat} {t':TypeId} {cs:List Value} {v:Value} (ha:∀ w,(isAgg t).run P w=.ok false w) (hx:ev e x=some (.pointer (some ⟨b,o,none⟩)))
 (hB:Blk w b t' cs) (hv:cs[o]?=some v):OpV P n e w ⟨dst,.load t x,ty,pos,af,g⟩ v w:=V.ld ha hx ((hB.cell o).trans hv)
theorem V.ldR {t:TypeId} {x:Operand} {b o j:Nat} {vs:List Value} {v:Value} (ha:∀ w,(isAgg t).run P w=.ok false w) (hx:ev e x=some (.pointer (some ⟨b,o+j,none⟩)))
 (hR:Rd w b o vs) (hv:vs[j]?=some v):OpV P n e w ⟨dst,.load t x,ty,pos,af,g⟩ v w:=V.ld ha hx (hR j v hv)
theorem V.ldR0 {t:TypeId} {x:Operand} {b o:Nat} {vs:List Value} {v:Value} (ha:∀ w,(isAgg t).run P w=.ok false w) (hx:ev e x=some (.pointer (some ⟨b,o,none⟩)))
 (hR:Rd w b o vs) (hv:vs[0]?=some v):OpV P n e w ⟨dst,.load t x,ty,pos,af,g⟩ v w:=V.ld ha hx (hR 0 v hv)
theorem V.ldA {t:TypeId} {x:Operand} {b o s:Nat} {vs:List Value} (ha:∀ w,(isAgg t).run P w=.ok true w) (hs:∀ w,(sizeOf t).run P w=.ok s w) (hx:ev e x=some (.pointer (some ⟨b,o,none⟩)))
 (hR:Rd w b o vs) (hl:vs.length=s) :
 OpV P n e w ⟨dst,.load t x,ty,pos,af,g⟩ (.agg vs.toArray) w:=
 λa hf=>by
  have hc:∀ j v,vs[j]?=some v→w.cell? ((⟨b,o,none⟩:Addr).add j)=some v:=λj v hv=>by rw [Addr.add_none];exact hR j v hv
  have:=run_loadCells_list (P:=P) (w:=w) ⟨b,o,none⟩ vs hc;rw [hl] at this;simp [execOp,ev_eval hf hx,Instr.loadAt,Instr.sureAddr,loadVar,ha,hs,this]
theorem V.ldBA {t:TypeId} {x:Operand} {b o s:Nat} {t':TypeId} {cs:List Value} (vs:List Value) (ha:∀ w,(isAgg t).run P w=.ok true w) (hs:∀ w,(sizeOf t).run P w=.ok s w) (hx:ev e x=some (.pointer (some ⟨b,o,none⟩)))
 (hB:Blk w b t' cs) (hv:(cs.drop o).take s=vs) (hl:vs.length=s):OpV P n e w ⟨dst,.load t x,ty,pos,af,g⟩ (.agg vs.toArray) w:=
 V.ldA ha hs hx (λj v hj=>by
  rw [hB.cell];rw [← hv,List.getElem?_take] at hj
  split at hj
  ·rw [List.getElem?_drop] at hj;exact hj
  ·cases hj) hl
def setL (cs:List Value) (o:Nat):List Value→List Value
 | []=>cs
 | v::r=>setL (cs.set o v) (o+1) r
theorem length_setL:∀ (vs cs:List Value) (o:Nat),(setL cs o vs).length=cs.length
 | [],_,_=>rfl
 | v::r,cs,o=>by simp [setL,length_setL r]
theorem storeCells_blk (P:Program) (t:TypeId) (b:Nat):∀ (vs:List Value) (cs:List Value) (o j:Nat) (w:World),Blk w b t cs→(∀ u∈vs,u.oneCell'=true)→o+j+vs.length≤cs.length →
 ∃ w',(storeCells ⟨b,o,none⟩ vs j).run P w=.ok () w'∧Blk w' b t (setL cs (o+j) vs)∧Fr (λx=>x=b) w w'
 | [],cs,o,j,w,hB,_,_=>⟨w,rfl,hB,Fr.refl _ _⟩
 | v::r,cs,o,j,w,hB,h1,hl=>by
  simp only [List.length_cons] at hl
  have hlt:o+j<cs.length:=by omega
  have hc:w.cell? ⟨b,o+j,none⟩=some cs[o+j]:=by rw [hB.cell];exact List.getElem?_eq_getElem hlt
  have hB':Blk (w.setCell ⟨b,o+j,none⟩ v) b t (cs.set (o+j) v):=by
   unfold Blk at hB ⊢;simp [World.setCell,Array.getElem?_modify,hB]
  obtain ⟨w',hr,hb,hf⟩:=storeCells_blk P t b r (cs.set (o+j) v) o (j+1) _ hB' (λu hu=>h1 u (by simp [hu])) (by simp;omega);refine ⟨w',?_,hb,(Fr.setCell w ⟨b,o+j,none⟩ v).trans hf⟩;rw [storeCells];simp only [Sem.run_bind,Addr.add_none,run_store P w ⟨b,o+j,none⟩ v .plain (h1 v (by simp)),hc,hB.frozen,Bool.false_eq_true,if_false,Result.andThen_ok];exact hr
theorem Rn.st {t:TypeId} {x y:Operand} {b o s:Nat} {t':TypeId} {cs vs:List Value} {v:Value} (ho:ops[i]?=some ⟨none,.store t x y,ty,pos,af,g⟩) (hg:gok e ops g=true) (hs:∀ w,(sizeOf t).run P w=.ok s w) (hx:ev e x=some (.pointer (some ⟨b,o,none⟩))) (hy:ev e y=some v) (hv:v.cells=vs.toArray)
 (hl:vs.length=s) (h1:∀ u∈vs,u.oneCell'=true) (hB:Blk w b t' cs) (hfit:o+vs.length≤cs.length)
 (h:∀ w',Blk w' b t' (setL cs o vs)→Fr (λx=>x=b) w w'→Rn P f n R (.inRegion ops rest::k) e w'):Rn P f n R (.inRegion ops (i::rest)::k) e w:=by
 obtain ⟨w',hr,hb,hf⟩:=storeCells_blk P t' b vs cs o 0 w hB h1 (by omega);refine Rn.opU (w':=w') ho hg rfl (λa hf=>?_) (h w' hb hf)
 have hsz:v.cells.size=s:=by rw [hv];simpa using hl
 simp [execOp,ev_eval hf hx,ev_eval hf hy,Instr.storeAt,Instr.sureAddr,storeVar,hs,hv,hl,hr]
theorem V.ixA {t el:TypeId} {x y:Operand} {b o m c:Nat} {q:IntKind} {j:Int} {s:Nat} (kk:Nat) (ht:P.underlying t=some (.slice el)) (hs:∀ w,(sizeOf el).run P w=.ok s w) (hx:ev e x=some (.slice (some ⟨b,o,none⟩) m c)) (hy:ev e y=some (.int q j)) (hj:j=(kk:Int)) (hm:kk<m) :
 OpV P n e w ⟨dst,.indexAddr t x y,ty,pos,af,g⟩ (.pointer (some ⟨b,o+kk*s,none⟩)) w:=λa hf=>by
 subst hj;have hlt:(0:Int)≤kk∧(kk:Int)<(m:Int):=⟨by omega,by omega⟩;simp [execOp,ev_eval hf hx,ev_eval hf hy,Instr.indexAt,asIntOf,run_underlying ht,hlt,hs,Addr.add_none];intro hh;omega
theorem Rn.ix {α:Type} {rep:Rep α} {D:Nat→Prop} {t el:TypeId} {x y:Operand} {A:Option Addr} {m c:Nat} {q:IntKind} {j:Int} {xs:List α} {s:Nat} (kk:Nat) (z:α) (ho:ops[i]?=some ⟨some d,.indexAddr t x y,ty,pos,af,g⟩) (hg:gok e ops g=true) (hn:Nat.blt d n=true)
 (ht:P.underlying t=some (.slice el)) (hs:∀ w,(sizeOf el).run P w=.ok s w) (hx:ev e x=some (.slice A m c)) (hy:ev e y=some (.int q j)) (hS:Sl D w A rep xs) (hsz:rep.sz=s) (hz:xs[kk]?=some z) (hj:j=(kk:Int)) (hm:kk<m)
 (h:∀ b o vs,Rd w b o vs→rep.rel D w vs z→D b→Rn P f n R (.inRegion ops rest::k) ((d,.pointer (some ⟨b,o,none⟩))::e) w):Rn P f n R (.inRegion ops (i::rest)::k) e w:=by
 obtain ⟨b,o,vs,rfl,hD,hR,hrel⟩:=hS.get hz;exact Rn.opV ho hg rfl hn (V.ixA kk ht hs hx hy hj hm) (h b (o+kk*s) vs (hsz▸hR) hrel hD)
theorem V.bld {t:TypeId} {ps:Array (Nat×Operand)} {us:List Value} {v:Value} (hx:evs e (ps.toList.map (·.2))=some us)
 (hr:∀ w,(Instr.build t ((ps.toList.map (·.1)).zip us).toArray).run P w=.ok v w) :
 OpV P n e w ⟨dst,.build t ps,ty,pos,af,g⟩ (v) w:=
 λa hf=>by
  have h1:=evs_map hf hx
  have h2:ps.map (λx=>(x.1,a.eval x.2))=((ps.toList.map (·.1)).zip us).toArray:=by
   rw [← h1]
   apply Array.ext'
   rw [Array.toList_map,List.map_map];generalize ps.toList=l
   induction l with
   | nil=>rfl
   | cons p r ih=>simp [ih]
  simp [execOp,h2,hr w]
theorem V.bsl {t el:TypeId} {ps:Array (Nat×Operand)} {m:Nat} {us:List Value} {cs:List Value} (hx:evs e (ps.toList.map (·.2))=some us)
 (hr:∀ w,(Instr.buildSlice t m ((ps.toList.map (·.1)).zip us).toArray).run P w=.ok (.slice (some ⟨w.heap.size,0,none⟩) m m) (w.alloc (.cells cs.toArray el))) :
 OpV P n e w ⟨dst,.buildSlice t m ps,ty,pos,af,g⟩ (.slice (some ⟨w.heap.size,0,none⟩) m m) (w.alloc (.cells cs.toArray el)):=λa hf=>by
 have h1:=evs_map hf hx
 have h2:ps.map (λx=>(x.1,a.eval x.2))=((ps.toList.map (·.1)).zip us).toArray:=by
  rw [← h1]
  apply Array.ext'
  rw [Array.toList_map,List.map_map];generalize ps.toList=l
  induction l with
  | nil=>rfl
  | cons p r ih=>simp [ih]
 simp [execOp,h2,hr w]
theorem Rn.bsl {t el:TypeId} {ps:Array (Nat×Operand)} {m:Nat} {us:List Value} {cs:List Value} (ho:ops[i]?=some ⟨some d,.buildSlice t m ps,ty,pos,af,g⟩) (hg:gok e ops g=true) (hn:Nat.blt d n=true) (hx:evs e (ps.toList.map (·.2))=some us)
 (hr:∀ w,(Instr.buildSlice t m ((ps.toList.map (·.1)).zip us).toArray).run P w=.ok (.slice (some ⟨w.heap.size,0,none⟩) m m) (w.alloc (.cells cs.toArray el)))
 (h:∀ b w',b=w.heap.size→Blk w' b el cs→Ext w w'→Rn P f n R (.inRegion ops rest::k) ((d,.slice (some ⟨b,0,none⟩) m m)::e) w'):Rn P f n R (.inRegion ops (i::rest)::k) e w:=
 Rn.opV ho hg rfl hn (V.bsl hx hr) (h w.heap.size _ rfl (Blk.new w el cs) (Ext.alloc w _))
theorem V.cutV {x:Operand} {lo hi:Option Operand} {A:Option Addr} {m c s:Nat} {t el:TypeId} (p q:Nat) (ht:P.underlying t=some (.slice el)) (hs:∀ w,(sizeOf el).run P w=.ok s w) (hx:ev e x=some (.slice A m c))
 (hlo:match lo with | some y=>∃ j,ev e y=some (.int .i64 j)∧j=(p:Int) | none=>p=0) (hhi:match hi with | some y=>∃ j,ev e y=some (.int .i64 j)∧j=(q:Int) | none=>q=m) (h1:p≤q) (h2:q≤c) :
 OpV P n e w ⟨dst,.slice t x lo hi none,ty,pos,af,g⟩ (.slice (if c=p then A else A.map (·.add (p*s))) (q-p) (c-p)) w:=
 λb hf=>by
  cases lo with
  | none=>
   cases hi with
   | none=>
    simp only at hlo hhi;subst hlo hhi;simp [execOp,ev_eval hf hx,Instr.sliceAt,run_underlying ht,Instr.slice,Instr.sliceBounds,hs]
   | some y=>
    simp only at hlo hhi;obtain ⟨j,hy,rfl⟩:=hhi;subst hlo;simp only [execOp,Option.map_none,Option.map_some,ev_eval hf hx,ev_eval hf hy,Instr.sliceAt,run_underlying ht,Instr.slice,Instr.sliceBounds,Sem.run_bind,Sem.run_pure,Result.andThen_ok,if_true];rw [sbound _ h2];simp [hs]
  | some z=>
   cases hi with
   | none=>
    simp only at hlo hhi;obtain ⟨j,hz,rfl⟩:=hlo;subst hhi;simp only [execOp,Option.map_none,Option.map_some,ev_eval hf hx,ev_eval hf hz,Instr.sliceAt,run_underlying ht,Instr.slice,Instr.sliceBounds,Sem.run_bind,Sem.run_pure,Result.andThen_ok,Option.isSome_none,Bool.false_eq_true,if_false,if_true];rw [sbound _ h1];simp [hs]
   | some y=>
    simp only at hlo hhi;obtain ⟨j,hz,rfl⟩:=hlo;obtain ⟨j',hy,rfl⟩:=hhi;simp only [execOp,Option.map_none,Option.map_some,ev_eval hf hx,ev_eval hf hy,ev_eval hf hz,Instr.sliceAt,run_underlying ht,Instr.slice,Instr.sliceBounds,Sem.run_bind,Sem.run_pure,Result.andThen_ok,Option.isSome_none,Bool.false_eq_true,if_false,if_true];rw [sbound _ h2];simp only [Result.andThen_ok];rw [sbound _ h1];simp [hs]
theorem Rn.als {t:TypeId} {z:Value} {zs:List Value} {x:Operand} {v:Value} {cs:List Value} {s i2:Nat} {ty2:TypeId} {pos2:String} {af2:Array Edge} (ho:ops[i]?=some ⟨some d,.alloc t,ty,pos,af,none⟩) (ho2:ops[i2]?=some ⟨none,.store t (.tmp d) x,ty2,pos2,af2,none⟩) (hn:Nat.blt d n=true)
 (hz:∀ w,(zeroValue t).run P w=.ok z w) (hzc:z.cells=zs.toArray) (hs:∀ w,(sizeOf t).run P w=.ok s w) (hzl:zs.length=s) (hx:ev ((d,undef)::e) x=some v) (hc:v.cells=cs.toArray) (hl:cs.length=s) (h1:∀ u∈cs,u.oneCell'=true)
 (h:∀ b w',b=w.heap.size→Blk w' b t cs→Ext w w'→Rn P f n R (.inRegion ops rest::k) ((d,.pointer (some ⟨b,0,none⟩))::e) w'):Rn P f n R (.inRegion ops (i::i2::rest)::k) e w:=by
 refine Rn.alloc ho rfl hn hz hzc λb w1 hb hB hE=>?_
 have hx':∀ p:Value,ev ((d,p)::e) x=some v∨x=.tmp d:=by
  intro p
  cases x with
  | tmp t=>
   by_cases hdt:d=t
   ·subst hdt;exact .inr rfl
   ·left;simp only [ev] at hx ⊢;rw [lk_other _ _ hdt] at hx ⊢;exact hx
  | const c=>exact .inl hx
  | global c=>exact .inl hx
  | func c=>exact .inl hx
 rcases hx' (.pointer (some ⟨b,0,none⟩)) with hx'|rfl
 ·refine Rn.st ho2 rfl hs (lk_same _ _ _) hx' hc hl h1 hB (by omega) λw2 hB2 hF=>?_
  have hset:setL zs 0 cs=cs:=by
   have:∀ (vs zs pre:List Value),zs.length=vs.length→setL (pre++zs) pre.length vs=pre++vs:=by
    intro vs
    induction vs with
    | nil=>intro zs pre hl;have:zs=[]:=List.eq_nil_of_length_eq_zero hl;simp [setL,this]
    | cons v r ih=>
     intro zs pre hl
     cases zs with
     | nil=>cases hl
     | cons z zr=>
      simp only [setL]
      have h2:(pre++z::zr).set pre.length v=(pre++[v])++zr:=by simp
      rw [h2];have:=ih zr (pre++[v]) (by simpa using hl);simp only [List.length_append,List.length_cons,List.length_nil,Nat.zero_add] at this;rw [this];simp
   have:=this cs zs [] (by omega);simpa using this
  rw [hset] at hB2;exact h b w2 hb hB2 (hE.trans' hF λx hx=>.inr (by omega))
 ·simp only [ev,lk_same] at hx
  cases hx
  simp only [undef,Value.cells] at hc
  have:cs=[.tuple #[]]:=by simpa using congrArg Array.toList hc.symm
  subst this;have:=h1 (.tuple #[]) (by simp);simp [Value.oneCell'] at this
end
end Go.Wk
set_option linter.unusedVariables false
set_option linter.unusedSimpArgs false
namespace Go.Wk
open Go Go.RowKit
variable {K:Act→World→Prop}
section
variable {P:Program} {f:FuncId} {n:Nat} {R:Ending→World→Prop} {k:List Item} {e:Env} {w:World}
def Ra (P:Program) (f:FuncId) (R:Ending→World→Prop) (k:List Item) (a:Act) (w:World):Prop:=
 ∀ (b:Frame) (cs:List Frame),b.fn=f→b.kind=.normal→∃ x w' fr,R x w'∧Comes P (lone (b.at a k) cs w) (lone fr cs w') x∧fr.fn=f∧fr.leaving P w' x
def QK (K:Act→World→Prop):Exit→Act→World→Prop:=λx a w=>x=.normal∧K a w
abbrev QQ (P:Program) (f:FuncId) (R:Ending→World→Prop) (k:List Item):Exit→Act→World→Prop:=QK (Ra P f R k)
def RG (P:Program) (n:Nat) (K:Act→World→Prop) (ops:Array Oper) (S:World→Prop) (fuel:Nat) (listed:Array Bool) (e:Env) (w:World):Prop:=
 ∀ a:Act,a.defers=[]→Fits e n a.tmps→S w→wpAnyH P .any ops (QK K) S fuel listed a w
abbrev RH (P:Program) (f:FuncId) (n:Nat) (R:Ending→World→Prop) (k:List Item) (ops:Array Oper) (S:World→Prop) (fuel:Nat) (listed:Array Bool) (e:Env) (w:World):Prop:=RG P n (Ra P f R k) ops S fuel listed e w
theorem Rn.draw {id:Nat} {ops:Array Oper} (S:World→Prop) (hm:P.follows .mixedOrders=true) (hS:S w.drew)
 (h:RH P f n R k ops S ops.size (Array.replicate ops.size false) e w.drew):Rn P f n R (.code (.region id ops true)::k) e w:=by
 intro b tm cs h1 h2 h3;have h4:=wp_region_held (id:=id) (a:=⟨tm,[]⟩) (w:=w) hm (h ⟨tm,[]⟩ rfl h3 hS);obtain ⟨x,a',w',⟨rfl,hR⟩,harr⟩:=h4 b k cs;obtain ⟨x,w2,fr,hR2,hc,q⟩:=hR b cs h1 h2;exact ⟨x,w2,fr,hR2,Comes.of_steps harr hc,q⟩
section
variable {ops:Array Oper} {S:World→Prop} {fuel:Nat} {listed:Array Bool} {i d:Nat} {o:Oper}
theorem defers_put (a:Act) (x:Option Nat) (v:Value):(a.put x v).defers=a.defers:=by cases x<;>rfl
theorem fits_put {a:Act} (hf:Fits e n a.tmps) (hn:Nat.blt d n=true) (v:Value):Fits ((d,v)::e) n (a.put (some d) v).tmps:=hf.put (by simpa [Nat.blt_eq] using hn) v
def okTake (ops:Array Oper) (listed:Array Bool) (i:Nat):Bool:=Region.noSelect ops&&Region.free .any ops listed i&&(Region.ready .any ops listed).contains i
theorem RH.take {v:Value} (i:Nat) (hk:okTake ops listed i=true) (ho:ops[i]?=some o) (hg:gok e ops o.guard=true) (hd:o.dst=some d) (hn:Nat.blt d n=true) (hv:∀ w,S w→OpV P n e w o v w)
 (h:RG P n K ops S fuel (listed.setIfInBounds i true) ((d,v)::e) w):RG P n K ops S (fuel+1) listed e w:=by
 intro a ha hf hS;simp only [okTake,Bool.and_eq_true] at hk;refine wpAnyH_take (v:=v) ho hk.1.1 hk.1.2 hk.2 (λc a w hh=>by cases hh.1) (.inl ⟨wanted_of_gok hf hg,λw hS=>hv w hS a hf⟩) hS ?_;rw [hd];exact h _ (by rw [defers_put];exact ha) (fits_put hf hn v) hS
theorem RH.no (i:Nat) (hk:okTake ops listed i=true) (ho:ops[i]?=some o) (hg:gno e ops o.guard=true) (hd:o.dst=some d) (hn:Nat.blt d n=true)
 (h:RG P n K ops S fuel (listed.setIfInBounds i true) ((d,undef)::e) w):RG P n K ops S (fuel+1) listed e w:=by
 intro a ha hf hS;simp only [okTake,Bool.and_eq_true] at hk;refine wpAnyH_take (v:=undef) ho hk.1.1 hk.1.2 hk.2 (λc a w hh=>by cases hh.1) (.inr ⟨wanted_of_gno hf hg,rfl⟩) hS ?_;rw [hd];exact h _ (by rw [defers_put];exact ha) (fits_put hf hn _) hS
theorem RH.one {v:Value} {w':World} (i:Nat) (hr:Region.ready .any ops listed=[i]) (ho:ops[i]?=some o) (hg:gok e ops o.guard=true) (hd:o.dst=some d) (hn:Nat.blt d n=true) (hv:OpV P n e w o v w') (hS':S w')
 (h:RG P n K ops S fuel (listed.setIfInBounds i true) ((d,v)::e) w'):RG P n K ops S (fuel+1) listed e w:=by
 intro a ha hf hS
 refine wpAnyH_all hr (by simp) λj hj=>?_
 obtain rfl:j=i:=by simpa using hj
 unfold wpOp;simp only [ho,wanted_of_gok hf hg,if_true];refine .inl ?_;unfold Oper.wp;rw [hv a hf,Oper.upon_value,hd];exact ⟨hS',h _ (by rw [defers_put];exact ha) (fits_put hf hn v) hS'⟩
theorem RH.oneU {w':World} (i:Nat) (hr:Region.ready .any ops listed=[i]) (ho:ops[i]?=some o) (hg:gok e ops o.guard=true) (hd:o.dst=none) (hv:∀ a:Act,Fits e n a.tmps→(execOp a.eval o).run P w=.ok .skip w') (hS':S w')
 (h:RG P n K ops S fuel (listed.setIfInBounds i true) e w'):RG P n K ops S (fuel+1) listed e w:=by
 intro a ha hf hS
 refine wpAnyH_all hr (by simp) λj hj=>?_
 obtain rfl:j=i:=by simpa using hj
 unfold wpOp;simp only [ho,wanted_of_gok hf hg,if_true];refine .inl ?_;unfold Oper.wp;rw [hv a hf,Oper.upon_skip,hd];exact ⟨hS',h _ (by rw [defers_put];exact ha) hf hS'⟩
theorem RH.opC {g:FuncId} {args:Array Value} {R':Ending→World→Prop} (i:Nat) (hr:Region.ready .any ops listed=[i]) (ho:ops[i]?=some o) (hg:gok e ops o.guard=true) (hd:o.dst=some d) (hn:Nat.blt d n=true)
 (hrun:∀ a:Act,Fits e n a.tmps→(execOp a.eval o).run P w=.ok (.enter g args) w) (hc:Calls P g args w R')
 (h:∀ x w',R' x w'→∃ v,x=.returned v∧S w'∧RG P n K ops S fuel (listed.setIfInBounds i true) ((d,v)::e) w'):RG P n K ops S (fuel+1) listed e w:=by
 intro a ha hf hS
 refine wpAnyH_all hr (by simp) λj hj=>?_
 obtain rfl:j=i:=by simpa using hj
 unfold wpOp;simp only [ho,wanted_of_gok hf hg,if_true];refine .inl ?_;unfold Oper.wp;rw [hrun a hf,Oper.upon_enter]
 refine hc.mono λx w' hR=>?_
 obtain ⟨v,rfl,hS',hk⟩:=h x w' hR;rw [hd];exact ⟨hS',hk _ (by rw [defers_put];exact ha) (fits_put hf hn v) hS'⟩
theorem RH.done (hr:Region.ready .any ops listed=[]) (h:S w→Rn P f n R k e w):RH P f n R k ops S fuel listed e w:=by
 intro a ha hf hS;refine wpAnyH_done hr ⟨rfl,?_⟩ fuel;intro b cs h1 h2;obtain ⟨tm,ds⟩:=a;subst ha;exact h hS b tm cs h1 h2 hf
theorem RH.part {t:Nat} {b:Bool} (hl:lk e t=some (.bool b)) (ht:b=true→RG P n K ops S fuel listed ((t,.bool true)::e) w) (hf:b=false→RG P n K ops S fuel listed ((t,.bool false)::e) w):RG P n K ops S fuel listed e w:=by
 intro a ha hfit hS
 cases b
 ·exact hf rfl a ha (hfit.sub (Sub.cons hl (Sub.refl e))) hS
 ·exact ht rfl a ha (hfit.sub (Sub.cons hl (Sub.refl e))) hS
theorem RH.partD {t:Nat} {p:Prop} [Decidable p] (hl:lk e t=some (.bool (decide p))) (ht:p→RG P n K ops S fuel listed ((t,.bool true)::e) w) (hf:¬p→RG P n K ops S fuel listed ((t,.bool false)::e) w):RG P n K ops S fuel listed e w:=
 RH.part hl (λh=>ht (of_decide_eq_true h)) (λh=>hf (of_decide_eq_false h))
theorem RH.say {t:Nat} {u:Value} (v:Value) (hl:lk e t=some u) (hv:u=v) (h:RG P n K ops S fuel listed ((t,v)::e) w):RG P n K ops S fuel listed e w:=by
 subst hv;intro a ha hfit hS;exact h a ha (hfit.sub (Sub.cons hl (Sub.refl e))) hS
theorem RH.call {gg:FuncId} {fn:Func} {c:Code} {xs:List Operand} {ts:Array TypeId} {vs:List Value} {R':Ending→World→Prop} {ty:TypeId} {pos:String} {af:Array Edge} {gd:Option (Nat×Bool)} (i:Nat) (hr:Region.ready .any ops listed=[i])
 (ho:ops[i]?=some ⟨some d,.call { callee:=.value (.func gg),args:=xs.toArray,argTypes:=ts },ty,pos,af,gd⟩) (hg:gok e ops gd=true) (hn:Nat.blt d n=true)
 (hfn : P.funcs[gg]? = some fn) (hb : fn.body = some c) (hnm : (fn.name == "runtime.NumGoroutine") = false) (hx : evs e xs = some vs) (hc : Calls P gg vs.toArray w R')
 (h:∀ x w',R' x w'→∃ v,x=.returned v∧S w'∧RG P n K ops S fuel (listed.setIfInBounds i true) ((d,v)::e) w'):RG P n K ops S (fuel+1) listed e w:=
 RH.opC (g:=gg) (args:=vs.toArray) i hr ho hg rfl hn (λa hf=>by
  simp [execOp,resolve,Act.eval,Deferred.ofValue,invoke,run_callFunc hfn hb hnm,evs_map hf hx]) hc h
end
end
def CallOk (P : Program) (g : FuncId) : Prop := ∃ fn c, P.funcs[g]? = some fn ∧ fn.body = some c ∧ (fn.name == "runtime.NumGoroutine") = false
section
variable {P:Program} {f:FuncId} {n:Nat} {R:Ending→World→Prop} {k:List Item} {e:Env} {w:World}
variable {ops:Array Oper} {i:Nat} {rest:List Nat} {d:Nat} {ty:TypeId} {pos:String} {af:Array Edge} {g:Option (Nat×Bool)}
theorem Rn.cl {gg:FuncId} {xs:List Operand} {ts:Array TypeId} {vs:List Value} {R':Ending→World→Prop} (ck:CallOk P gg)
 (ho:ops[i]?=some ⟨some d,.call { callee:=.value (.func gg),args:=xs.toArray,argTypes:=ts },ty,pos,af,g⟩) (hg:gok e ops g=true) (hn:Nat.blt d n=true)
 (hx:evs e xs=some vs) (hc:Calls P gg vs.toArray w R')
 (h:∀ x w',R' x w'→∃ v,x=.returned v∧Rn P f n R (.inRegion ops rest::k) ((d,v)::e) w'):Rn P f n R (.inRegion ops (i::rest)::k) e w:=
 let ⟨_,_,h1,h2,h3⟩:=ck;Rn.call ho hg hn h1 h2 h3 hx hc h
theorem Rn.clV {gg:FuncId} {y:Operand} {cs:List Value} {xs:List Operand} {ts:Array TypeId} {vs:List Value} {R':Ending→World→Prop} (ck:CallOk P gg)
 (ho:ops[i]?=some ⟨some d,.call { callee:=.value y,args:=xs.toArray,argTypes:=ts },ty,pos,af,g⟩) (hg:gok e ops g=true) (hn:Nat.blt d n=true)
 (hy:ev e y=some (.func (.func gg) #[] cs.toArray)) (hx:evs e xs=some vs) (hc:Calls P gg (vs++cs).toArray w R')
 (h:∀ x w',R' x w'→∃ v,x=.returned v∧Rn P f n R (.inRegion ops rest::k) ((d,v)::e) w'):Rn P f n R (.inRegion ops (i::rest)::k) e w:=
 let ⟨_,_,h1,h2,h3⟩:=ck;Rn.callV ho hg hn hy h1 h2 h3 hx hc h
theorem RH.cl {S:World→Prop} {fuel:Nat} {listed:Array Bool} {gg:FuncId} {xs:List Operand} {ts:Array TypeId} {vs:List Value} {R':Ending→World→Prop} (ck:CallOk P gg) (i:Nat) (hr:Region.ready .any ops listed=[i])
 (ho:ops[i]?=some ⟨some d,.call { callee:=.value (.func gg),args:=xs.toArray,argTypes:=ts },ty,pos,af,g⟩) (hg:gok e ops g=true) (hn:Nat.blt d n=true)
 (hx:evs e xs=some vs) (hc:Calls P gg vs.toArray w R')
 (h:∀ x w',R' x w'→∃ v,x=.returned v∧S w'∧RG P n K ops S fuel (listed.setIfInBounds i true) ((d,v)::e) w'):RG P n K ops S (fuel+1) listed e w:=
 let ⟨_,_,h1,h2,h3⟩:=ck;RH.call i hr ho hg hn h1 h2 h3 hx hc h
def Src {α:Type} (D:Nat→Prop) (w:World) (A:Option Addr) (rep:Rep α) (ys:List α):Prop:=ys≠[] →
 ∃ (b o:Nat) (vss:List (List Value)),A=some ⟨b,o,none⟩∧vss.length=ys.length∧(∀ (k:Nat) (vs:List Value) (x:α),vss[k]?=some vs→ys[k]?=some x→rep.rel D w vs x)∧∀ j u,vss.flatten[j]?=some u→w.cell? ⟨b,o+j,none⟩=some u
theorem reads_of_sl {α:Type} {rep:Rep α} {D:Nat→Prop} {A:Option Addr} {ys:List α} (h:Sl D w A rep ys):Src D w A rep ys:=by
 intro hne;obtain ⟨b,o,hA,hD,he⟩:=h hne;have:∀ (m:Nat) (zs:List α) (p:Nat),zs.length=m→(∀ k x,zs[k]?=some x→∃ vs,Rd w b (p+k*rep.sz) vs∧rep.rel D w vs x) →
  ∃ vss:List (List Value),vss.length=zs.length∧(∀ (k:Nat) (vs:List Value) (x:α),vss[k]?=some vs→zs[k]?=some x→rep.rel D w vs x)∧∀ j u,vss.flatten[j]?=some u→w.cell? ⟨b,p+j,none⟩=some u:=by
  intro m
  induction m with
  | zero=>intro zs p hz _;exact ⟨[],by simp [hz],λk vs x h=>by simp at h,λj u h=>by simp at h⟩
  | succ m ih=>
   intro zs p hz hzs
   cases zs with
   | nil=>cases hz
   | cons z zr=>
    obtain ⟨vs,hR,hrel⟩:=hzs 0 z rfl
    obtain ⟨vss,h1,h2,h3⟩:=ih zr (p+rep.sz) (by simpa using hz) (λk x hx=>by
     obtain ⟨us,g1,g2⟩:=hzs (k+1) x (by simpa using hx);refine ⟨us,?_,g2⟩
     have:p+(k+1)*rep.sz=p+rep.sz+k*rep.sz:=by rw [Nat.add_mul];omega
     rw [this] at g1;exact g1)
    refine ⟨vs::vss,by simp [h1],?_,?_⟩
    ·intro k us x hu hx
     cases k with
     | zero=>simp at hu hx;subst hu hx;exact hrel
     | succ k=>exact h2 k us x (by simpa using hu) (by simpa using hx)
    ·intro j u hu
     rw [List.flatten_cons] at hu;have hl:=rep.len hrel
     rcases Nat.lt_or_ge j vs.length with hj|hj
     ·rw [List.getElem?_append_left hj] at hu
      have:=hR j u hu;rw [Nat.zero_mul,Nat.add_zero] at this;exact this
     ·rw [List.getElem?_append_right hj] at hu
      have:=h3 (j-vs.length) u hu
      have hh:p+rep.sz+(j-vs.length)=p+j:=by omega
      rw [hh] at this;exact this
 obtain ⟨vss,h1,h2,h3⟩:=this ys.length ys o rfl he;exact ⟨b,o,vss,hA,h1,h2,h3⟩
def ElOk (P:Program) (el:TypeId) (sz by_:Nat):Prop:=∃ i z,P.info? el=some i∧i.zero=some z∧i.size=sz∧i.bytes=by_∧z.cells.size=sz∧0<sz
theorem app_run {α:Type} {rep:Rep α} {B by_:Nat} {D D':Nat→Prop} {t el:TypeId} {A A':Option Addr} {c c' m:Nat} {xs ys:List α}
 (ht:P.underlying t=some (.slice el)) (hel:ElOk P el rep.sz by_)
 (hO:Own B D w el A c rep xs) (hS:Src D' w A' rep ys) (hm:ys.length=m) (hB:B≤w.heap.size) (hlen:xs.length+m≤4294967296) (hby:(xs.length+m)*by_≤140737488355328) (ty:TypeId) :
 ∃ A2 c2 w',(Builtin.append_ #[t,t] ty #[.slice A xs.length c,.slice A' m c']).run P w=.ok (.slice A2 (xs.length+m) c2) w'∧Fr (λb=>ob A b) w w'∧(∀ b,ob A2 b→ob A b∨b=w.heap.size) ∧
  ((∀ b,D b→¬ob A b)→(∀ b,D' b→¬ob A b)→Own B (λb=>D b∨D' b) w' el A2 c2 rep (xs++ys)):=by
 obtain ⟨inf,z,hi,hz,hsz,hbt,hzs,hpos⟩:=hel
 by_cases hne:ys=[]
 ·subst hne
  simp only [List.length_nil] at hm;subst hm
  have hc:∀ s:Nat,∃ cs:Array Value,(Builtin.firstCells s 0 (.slice A' 0 c')).run P w=.ok cs w∧cs=#[]:=by
   intro s
   cases A' with
   | none=>exact ⟨#[],by simp [Builtin.firstCells],rfl⟩
   | some a=>exact ⟨#[],by simp [Builtin.firstCells,loadCells,loadCellsFrom],rfl⟩
  obtain ⟨cs0,h1,rfl⟩:=hc inf.size
  have hr:(Builtin.append_ #[t,t] ty #[.slice A xs.length c,.slice A' 0 c']).run P w=.ok (.slice A xs.length c) w:=by
   have:=hO.1
   cases A<;>simp [Builtin.append_,run_underlying ht,sizeOf,typeInfo,hi,Builtin.lenOf,h1,this,storeCells]
  refine ⟨A,c,w,by simpa using hr,Fr.refl _ _,λb hb=>.inl hb,λ_ _=>?_⟩;rw [List.append_nil]
  exact hO.mono λb hb=>.inl hb
 ·obtain ⟨b,o,uss,rfl,hul,hur,huc⟩:=hS hne
  have hulen:=lens_of hul hur;have h1:=ones_of hul hur
  have hufl:uss.flatten.length=m*rep.sz:=by rw [length_flat rep.sz uss hulen,hul,hm]
  have hm0:0<m:=by rw [← hm];exact List.length_pos_iff.2 hne
  have hnews:∀ j u,uss.flatten[j]?=some u→w.cell? ((⟨b,o,none⟩:Addr).add j)=some u:=λj u hj=>by rw [Addr.add_none];exact huc j u hj
  have hl2:(xs++ys).length=xs.length+m:=by rw [List.length_append,hm]
  have made:∀ (old:Nat) (vss:List (List Value)),old<xs.length+m→vss.length=xs.length→(∀ (k:Nat) (vs:List Value) (x:α),vss[k]?=some vs→xs[k]?=some x→rep.rel D w vs x) →
   let w2:=w.drew.alloc (.cells (vss.flatten.toArray++uss.flatten.toArray++Builtin.zeroCells z.cells (grownCap w (xs.length+m) old el-(xs.length+m))) el)
   Ext w w2∧Own B (λb=>D b∨D' b) w2 el (some ⟨w.heap.size,0,none⟩) (grownCap w (xs.length+m) old el) rep (xs++ys):=by
   intro old vss ho hvl hvr;have hge:=grownCap_ge w (xs.length+m) old el;have hcm:grownCap w (xs.length+m) old el≤maxLen:=grownCap_le_maxLen w (xs.length+m) old el (by simp only [maxLen];omega);have hE:Ext w (w.drew.alloc (.cells (vss.flatten.toArray++uss.flatten.toArray++Builtin.zeroCells z.cells (grownCap w (xs.length+m) old el-(xs.length+m))) el)):=(Ext.drew w).trans (Ext.alloc _ _)
   have hvfl:vss.flatten.length=xs.length*rep.sz:=by rw [length_flat rep.sz vss (lens_of hvl hvr),hvl]
   refine ⟨hE,?_⟩;refine ⟨by rw [hl2];exact hge,hcm,.inr ⟨w.heap.size,vss.flatten++uss.flatten++(Builtin.zeroCells z.cells (grownCap w (xs.length+m) old el-(xs.length+m))).toList,vss++uss,rfl,hB,?_,?_,by simp [hvl,hul],?_,?_⟩⟩
   ·have:=heap_alloc_new w.drew (.cells (vss.flatten.toArray++uss.flatten.toArray++Builtin.zeroCells z.cells (grownCap w (xs.length+m) old el-(xs.length+m))) el)
    unfold Blk
    have e1:vss.flatten.toArray++uss.flatten.toArray++Builtin.zeroCells z.cells (grownCap w (xs.length+m) old el-(xs.length+m))=(vss.flatten++uss.flatten++(Builtin.zeroCells z.cells (grownCap w (xs.length+m) old el-(xs.length+m))).toList).toArray:=by
     apply Array.ext';simp
    rw [← e1];exact this
   ·simp only [List.length_append,Array.length_toList,size_zeroCells,hzs,hvfl,hufl,← Nat.add_mul]
    apply Nat.le_of_eq;congr 1;omega
   ·intro k vs x hv hx
    rcases Nat.lt_or_ge k xs.length with hk|hk
    ·rw [List.getElem?_append_left (by omega)] at hv
     rw [List.getElem?_append_left hk] at hx
     exact rep.mono (Rep.ext (hvr k vs x hv hx) hE) λb hb=>.inl hb
    ·rw [List.getElem?_append_right (by omega)] at hv
     rw [List.getElem?_append_right hk] at hx;rw [hvl] at hv
     exact rep.mono (Rep.ext (hur _ vs x hv hx) hE) λb hb=>.inr hb
   ·rw [hl2,List.flatten_append,Nat.add_mul,← hvfl,← hufl,← List.length_append,List.take_left]
  rcases hO.2.2 with ⟨rfl,hc0⟩|⟨gb,cs,vss,rfl,hg1,hg2,hg3,hg4,hg5,hg6⟩
  ·have hx:xs=[]:=List.eq_nil_of_length_eq_zero (by have:=hO.1;omega)
   subst hx hc0;have hr:=run_append_nil (P:=P) w t ty el inf z ht hi hz ⟨b,o,none⟩ m c' uss.flatten (by rw [hsz];exact hufl) hnews hm0 (by omega) (by have:=hby;simp only [List.length_nil,Nat.zero_add] at this;rw [hbt];omega);obtain ⟨hE,hown⟩:=made 0 [] (by simp;omega) rfl (λk vs x hv=>by simp at hv);simp only [List.length_nil,Nat.zero_add,List.flatten_nil,List.nil_append,Array.empty_append] at hE hown hr ⊢;exact ⟨_,_,_,hr,Ext.fr hE,λx hx=>.inr (by cases hx;rfl),λ_ _=>hown⟩
  ·by_cases hroom:xs.length+m≤c
   ·have hcsl:xs.length*rep.sz+uss.flatten.length≤cs.length:=by rw [hufl,← Nat.add_mul];exact Nat.le_trans (Nat.mul_le_mul_right _ hroom) hg3
    have hr:=run_append_room (P:=P) w t ty el inf ht hi gb xs.length c cs.toArray hg2 ⟨b,o,none⟩ m c' uss.flatten (by rw [hsz];exact hufl) hnews h1 hroom (by rw [hsz];simpa using hcsl)
    have hF:Fr (λx=>ob (some ⟨gb,0,none⟩) x) w (w.setRow gb (cs.toArray.toList.take (xs.length*inf.size)++uss.flatten++cs.toArray.toList.drop (xs.length*inf.size+uss.flatten.length)).toArray):=
     ⟨rfl,rfl,rfl,by simp,λx hx hn=>setRow_other w gb x _ (λe=>hn (by rw [e];rfl))⟩
    refine ⟨_,_,_,hr,hF,λx hx=>.inl hx,λhD hD'=>⟨by rw [hl2];exact hroom,hO.2.1,.inr ⟨gb,_,vss++uss,rfl,hg1,setRow_heap w gb _ _ el _ hg2,?_,by simp [hg4,hul],?_,?_⟩⟩⟩
    ·simp only [List.toList_toArray,List.length_append,List.length_take,List.length_drop,hsz];omega
    ·intro k vs x hv hx
     rcases Nat.lt_or_ge k xs.length with hk|hk
     ·rw [List.getElem?_append_left (by omega)] at hv
      rw [List.getElem?_append_left hk] at hx
      exact rep.mono (Rep.fr (hg5 k vs x hv hx) hF hD) λb hb=>.inl hb
     ·rw [List.getElem?_append_right (by omega)] at hv
      rw [List.getElem?_append_right hk] at hx;rw [hg4] at hv
      exact rep.mono (Rep.fr (hur _ vs x hv hx) hF hD') λb hb=>.inr hb
    ·simp only [List.toList_toArray,hsz]
     rw [hl2,List.flatten_append,hg6,Nat.add_mul,← hufl]
     have:vss.flatten.length=xs.length*rep.sz:=by rw [length_flat rep.sz vss (lens_of hg4 hg5),hg4]
     rw [← this,← List.length_append,List.take_left]
   ·have holds:∀ j u,vss.flatten[j]?=some u→w.cell? ((⟨gb,0,none⟩:Addr).add j)=some u:=by
     intro j u hj;rw [← hg6,List.getElem?_take] at hj
     split at hj
     ·rw [Addr.add_none,Nat.zero_add,hg2.cell];exact hj
     ·cases hj
    have hvfl:vss.flatten.length=xs.length*rep.sz:=by rw [length_flat rep.sz vss (lens_of hg4 hg5),hg4]
    have hr:=run_append_grow (P:=P) w t ty el inf z ht hi hz ⟨gb,0,none⟩ xs.length c vss.flatten (by rw [hsz];exact hvfl) holds ⟨b,o,none⟩ m c' uss.flatten (by rw [hsz];exact hufl) hnews (by omega) (by omega) (growslice_fits (by omega) (by rw [hbt];exact hby));obtain ⟨hE,hown⟩:=made c vss (by omega) hg4 hg5;exact ⟨_,_,_,hr,Ext.fr hE,λx hx=>.inr (by cases hx;rfl),λ_ _=>hown⟩
end
theorem w64 {z:Int} (h1:-9223372036854775808≤z) (h2:z≤9223372036854775807):IntKind.i64.wrap z=z:=by rw [IntKind.wrap_i64];omega
theorem wu64 {z:Int} (h1:0≤z) (h2:z≤18446744073709551615):IntKind.u64.wrap z=z:=by simp [IntKind.wrap,IntKind.signed,IntKind.bits];omega
theorem lkv {e:Env} {t:Nat} {a:Value} (b:Value) (h:lk e t=some a) (hab:a=b):lk e t=some b:=by rw [h,hab]
end Go.Wk
set_option linter.unusedVariables false
set_option linter.unusedSimpArgs false
namespace Go.Wk
open Go Go.RowKit
def No:Nat→Prop:=λ_=>False
def All:Nat→Prop:=λ_=>True
def fillL (offs:List (Nat×Nat)) (cells:List Value):List (Nat×Value)→Option (List Value)
 | []=>some cells
 | p::rest=>match offs[p.1]? with
  | none=>none
  | some q=>bif Nat.beq p.2.cells.toList.length q.2&&Nat.ble (q.1+p.2.cells.toList.length) cells.length then fillL offs (setL cells q.1 p.2.cells.toList) rest else none
theorem foldl_setL (off:Nat):∀ (vs:List Value) (k:Nat) (cs:List Value),(vs.zipIdx k).foldl (λ(a:Array Value) (p:Value×Nat)=>a.setIfInBounds (off+p.2) p.1) cs.toArray=(setL cs (off+k) vs).toArray
 | [],_,_=>rfl
 | v::r,k,cs=>by
  simp only [List.zipIdx_cons,List.foldl_cons,setL]
  have:cs.toArray.setIfInBounds (off+k) v=(cs.set (off+k) v).toArray:=by simp
  rw [this,foldl_setL off r (k+1)]
  rfl
theorem fill_eq (offs:List (Nat×Nat)):∀ (ps:List (Nat×Value)) (cells cs:List Value),fillL offs cells ps=some cs→Instr.fill (offs.toArray[·]?) cells.toArray ps=some cs.toArray
 | [],cells,cs,h=>by simp only [fillL,Option.some.injEq] at h;subst h;rfl
 | p::rest,cells,cs,h=>by
  obtain ⟨i,v⟩:=p;simp only [fillL] at h
  split at h
  ·cases h
  ·rename_i q hq
   obtain ⟨off,sz⟩:=q;simp only [Bool.cond_eq_ite,Bool.and_eq_true] at h
   split at h
   ·rename_i hc
    have h1:v.cells.toList.length=sz:=Nat.eq_of_beq_eq_true hc.1;have h2:off+v.cells.toList.length≤cells.length:=Nat.le_of_ble_eq_true hc.2
    have hq':offs.toArray[i]?=some (off,sz):=by simpa using hq
    simp only [Instr.fill,hq'];rw [Array.length_toList] at h1 h2;rw [if_neg (by simp [h1];omega)]
    have e1:v.cells.zipIdx.foldl (λcs (c,j)=>cs.setIfInBounds (off+j) c) cells.toArray=(setL cells off v.cells.toList).toArray:=by
     have:=foldl_setL off v.cells.toList 0 cells;rw [Nat.add_zero] at this;rw [← this,← Array.foldl_toList,Array.toList_zipIdx]
    rw [e1];exact fill_eq offs rest _ _ h
   ·cases h
def StOk (P:Program) (t:TypeId) (zs:List Value) (offs:List (Nat×Nat)):Prop:=
 (∀ w,(zeroValue t).run P w=.ok (.agg zs.toArray) w)∧∃ fs,P.underlying t=some (.struct fs)∧∀ w,(fs.mapM λf=>(do pure (f.offset,← sizeOf f.type):Sem (Nat×Nat))).run P w=.ok offs.toArray w
section
variable {P:Program} {f:FuncId} {n:Nat} {R:Ending→World→Prop} {k:List Item} {e:Env} {w:World}
variable {ops:Array Oper} {i:Nat} {rest:List Nat} {d:Nat} {dst:Option Nat} {ty:TypeId} {pos:String} {af:Array Edge} {g:Option (Nat×Bool)}
theorem V.bldS {t:TypeId} {ps:Array (Nat×Operand)} {us:List Value} {zs cs:List Value} {offs:List (Nat×Nat)} (hst:StOk P t zs offs) (hx:evs e (ps.toList.map (·.2))=some us) (hf:fillL offs zs ((ps.toList.map (·.1)).zip us)=some cs) :
 OpV P n e w ⟨dst,.build t ps,ty,pos,af,g⟩ (.agg cs.toArray) w:=by
 obtain ⟨hz,fs,hu,hm⟩:=hst
 refine V.bld hx λw=>?_
 have hfill:=fill_eq offs _ _ _ hf;simp only [Instr.build,Sem.run_bind,hz,Result.andThen_ok,run_underlying hu,hm,Value.cells];rw [hfill];simp
theorem fill_full (s:Nat):∀ (us:List Value) (k:Nat) (pre post:List Value),(∀ u∈us,u.cells.size=s)→pre.length=k*s→post.length=us.length*s →
 Instr.fill (λi=>some (i*s,s)) (pre++post).toArray ((List.range' k us.length).zip us)=some (pre++us.flatMap (λu=>u.cells.toList)).toArray
 | [],k,pre,post,_,_,hp=>by
  have:post=[]:=List.eq_nil_of_length_eq_zero (by simpa using hp);simp [Instr.fill,this]
 | u::r,k,pre,post,hu,hk,hp=>by
  have hus:=hu u (by simp);simp only [List.length_cons,List.range'_succ,List.zip_cons_cons,Instr.fill]
  rw [if_neg (by
   simp only [List.size_toArray,List.length_append,hus,hk,hp,List.length_cons,Nat.add_mul]
   simp)]
  have e1:u.cells.zipIdx.foldl (λcs (c,j)=>cs.setIfInBounds (k*s+j) c) (pre++post).toArray=(setL (pre++post) (k*s) u.cells.toList).toArray:=by
   have:=foldl_setL (k*s) u.cells.toList 0 (pre++post);rw [Nat.add_zero] at this;rw [← this,← Array.foldl_toList,Array.toList_zipIdx]
  rw [e1]
  have e2:∀ (vs pre post:List Value),vs.length≤post.length→setL (pre++post) pre.length vs=pre++vs++post.drop vs.length:=by
   intro vs
   induction vs with
   | nil=>intro pre post _;simp [setL]
   | cons v r ih=>
    intro pre post hl
    cases post with
    | nil=>simp at hl
    | cons p q=>
     simp only [setL]
     have h2:(pre++p::q).set pre.length v=(pre++[v])++q:=by simp
     rw [h2];have:=ih (pre++[v]) q (by simpa using hl);simp only [List.length_append,List.length_cons,List.length_nil,Nat.zero_add] at this;rw [this];simp
  have hl:u.cells.toList.length=s:=by simpa using hus
  rw [← hk,e2 _ _ _ (by rw [hl,hp,List.length_cons,Nat.add_mul];omega)];have:=fill_full s r (k+1) (pre++u.cells.toList) (post.drop u.cells.toList.length) (λx hx=>hu x (by simp [hx])) (by rw [List.length_append,hk,hl,Nat.add_mul];omega)
   (by rw [List.length_drop,hp,hl,List.length_cons,Nat.add_mul];omega)
  rw [this];simp
theorem run_buildSlice {t el:TypeId} {m s by_:Nat} {us:List Value} (ht:P.underlying t=some (.slice el)) (hel:ElOk P el s by_) (hl:us.length=m) (hu:∀ u∈us,u.cells.size=s) (hbig:m*s≤16777216) (w:World) :
 (Instr.buildSlice t m ((List.range m).zip us).toArray).run P w=.ok (.slice (some ⟨w.heap.size,0,none⟩) m m) (w.alloc (.cells (us.flatMap (λu=>u.cells.toList)).toArray el)):=by
 obtain ⟨inf,z,hi,hz,hsz,_,hzs,hpos⟩:=hel
 have hzv:(zeroValue el).run P w=.ok z w:=by simp [zeroValue,typeInfo,hi,hz]
 have hfill:∀ c0:Array Value,c0.size=m*s→Instr.fill (λi=>some (i*s,s)) c0 ((List.range m).zip us)=some (us.flatMap (λu=>u.cells.toList)).toArray:=by
  intro c0 hc;have:=fill_full s us 0 [] c0.toList hu (by simp) (by simpa [hl] using hc);simp only [List.nil_append,Array.toArray_toList,List.range_eq_range',hl] at this;rw [List.range_eq_range'];exact this
 have hbig':¬(m*s>16777216):=by omega
 simp only [Instr.buildSlice,Sem.run_bind,run_underlying ht,Result.andThen_ok,sizeOf,typeInfo,hi,run_program,Sem.run_pure,hsz]
 by_cases h0:m*s=0
 ·have:=hfill #[] (by simpa using h0.symm)
  have hr0:Array.range 0=#[]:=rfl;simp only [Sem.run_ite,h0,Nat.not_lt_zero,gt_iff_lt,if_true,Sem.run_pure,Result.andThen_ok,hr0,Array.map_empty,this,newRow,newObj,Sem.run_bind]
  rfl
 ·have:=hfill ((Array.range (m*s)).map (z.cells[·%z.cells.size]!)) (by simp)
  simp only [Sem.run_ite,hbig',h0,if_false,Sem.run_bind,hzv,Sem.run_pure,Result.andThen_ok,this,newRow,newObj]
  rfl
theorem Rn.bslS {t el:TypeId} {s by_:Nat} {ps:List (Nat×Operand)} {m:Nat} {us cs:List Value} (ho:ops[i]?=some ⟨some d,.buildSlice t m ps.toArray,ty,pos,af,g⟩) (hg:gok e ops g=true) (hn:Nat.blt d n=true)
 (ht:P.underlying t=some (.slice el)) (hel:ElOk P el s by_) (hps:ps.map (·.1)=List.range m) (hx:evs e (ps.map (·.2))=some us) (hl:us.length=m) (hcs:us.flatMap (λu=>u.cells.toList)=cs) (hu:∀ u∈us,u.cells.size=s) (hbig:m*s≤16777216)
 (h:∀ b w',b=w.heap.size→Blk w' b el cs→Ext w w'→Rn P f n R (.inRegion ops rest::k) ((d,.slice (some ⟨b,0,none⟩) m m)::e) w'):Rn P f n R (.inRegion ops (i::rest)::k) e w:=by
 refine Rn.bsl (us:=us) ho hg hn (by simpa using hx) (λw=>?_) h;rw [List.toList_toArray,hps,← hcs];exact run_buildSlice ht hel hl hu hbig w
theorem Rn.push {α:Type} {rep:Rep α} {B by_:Nat} {D:Nat→Prop} {t el:TypeId} {x y:Operand} {A:Option Addr} {c:Nat} {xs:List α} {i2 d2:Nat} {v:Value} {vs:List Value} {ty2:TypeId} {pos2:String} {af2:Array Edge} (z:α)
 (ho:ops[i]?=some ⟨some d,.buildSlice t 1 #[(0,x)],ty,pos,af,none⟩) (ho2:ops[i2]?=some ⟨some d2,.call { callee:=.builtin .append,args:=#[y,.tmp d],argTypes:=#[t,t] },ty2,pos2,af2,none⟩)
 (hn:Nat.blt d n=true) (hn2:Nat.blt d2 n=true)
 (ht:P.underlying t=some (.slice el)) (hel:ElOk P el rep.sz by_) (hx:ev e x=some v) (hv:v.cells=vs.toArray) (hy:∀ u,ev ((d,u)::e) y=some (.slice A xs.length c))
 (hO:Own B D w el A c rep xs) (hrel:rep.rel D w vs z) (hB:B≤w.heap.size) (hlen:xs.length+1≤4294967296) (hby:(xs.length+1)*by_≤140737488355328) (hsz:rep.sz≤16777216)
 (hD:∀ b,D b→¬ob A b)
 (h:∀ A2 c2 w' u,Own B D w' el A2 c2 rep (xs++[z])→Fr (λb=>ob A b) w w'→(∀ b,ob A2 b→ob A b∨w.heap.size≤b)→Rn P f n R (.inRegion ops rest::k) ((d2,.slice A2 (xs.length+1) c2)::(d,u)::e) w'):Rn P f n R (.inRegion ops (i::i2::rest)::k) e w:=by
 have hlv:=rep.len hrel
 refine Rn.bslS (s:=rep.sz) (ps:=[(0,x)]) (us:=[v]) (cs:=vs) (by simpa using ho) rfl hn ht hel rfl (by simp [evs,hx]) rfl (by simp [hv]) (by simp [hv,hlv]) (by simpa using hsz) λb w1 hb hBl hE=>?_
 have hO1:=hO.ext hE
 have hS:Src D w1 (some ⟨b,0,none⟩) rep [z]:=λ_=>⟨b,0,[vs],rfl,rfl,λk us x hu hx=>by
  cases k with
  | zero=>simp at hu hx;subst hu hx;exact Rep.ext hrel hE
  | succ k=>simp at hx,λj u hj=>by simp at hj;rw [Nat.zero_add,hBl.cell];exact hj⟩
 obtain ⟨A2,c2,w2,hr,hF,hob,hown⟩:=app_run (P:=P) (B:=B) (c':=1) (m:=1) ht hel hO1 hS rfl (Nat.le_trans hB hE.size) hlen hby ty2;have hown2:=(hown hD hD).mono (D':=D) (λb hb=>hb.elim id id);refine Rn.opV (w':=w2) ho2 rfl rfl hn2 (λa hf=>?_) (h A2 c2 w2 _ hown2 ?_ ?_)
 ·have hy':=hy (.slice (some ⟨b,0,none⟩) 1 1)
  have hd':ev ((d,Value.slice (some ⟨b,0,none⟩) 1 1)::e) (.tmp d)=some (.slice (some ⟨b,0,none⟩) 1 1):=lk_same _ _ _;simp [execOp,resolve,invoke,builtin,ev_eval hf hy',ev_eval hf hd',hr]
 ·exact (Ext.fr hE).trans hF
 ·intro x hx
  rcases hob x hx with h1|h1
  ·exact .inl h1
  ·exact .inr (by have:=hE.size;omega)
end
end Go.Wk
set_option linter.unusedVariables false
set_option linter.unusedSimpArgs false
namespace Go.Wk
open Go Go.RowKit
def byteR:Rep UInt8:=Rep.flat 1 (λc=>[.int .u8 c.toNat]) (λ_=>True) (λ_=>rfl) (λ_=>by simp [Value.oneCell']) Nat.one_pos
section
variable {P:Program} {f:FuncId} {n:Nat} {R:Ending→World→Prop} {k:List Item} {e:Env} {w:World}
variable {ops:Array Oper} {i:Nat} {rest:List Nat} {d:Nat} {dst:Option Nat} {ty:TypeId} {pos:String} {af:Array Edge} {g:Option (Nat×Bool)}
theorem s2b_run {s t el:TypeId} (hs:P.underlying s=some .string) (ht:P.underlying t=some (.slice el)) (he:P.underlying el=some (.int .u8)) (l:List UInt8) (hl:l.length≤maxLen) (w:World) :
 ∃ c w',(convert s t (Str l)).run P w=.ok (.slice (some ⟨w.heap.size,0,none⟩) l.length c) w'∧l.length≤c∧c≤maxLen∧Ext w w'∧w'.heap.size=w.heap.size+1∧Sl (λb=>b=w.heap.size) w' (some ⟨w.heap.size,0,none⟩) byteR l:=by
 have hq:(⟨l.toArray⟩:ByteArray).size=l.length:=by simp [ByteArray.size]
 have hr:=run_bytes_of_string (P:=P) w s t el ⟨l.toArray⟩ hs ht he;rw [hq] at hr;refine ⟨_,_,hr,grownCap_ge w l.length 0 el,grownCap_le_maxLen w l.length 0 el hl,(Ext.drew w).trans (Ext.alloc _ _),by simp,?_⟩;intro hne;refine ⟨w.heap.size,0,rfl,rfl,λkk x hx=>⟨[.int .u8 x.toNat],λj v hv=>?_,rfl,trivial⟩⟩
 cases j with
 | succ j=>simp at hv
 | zero=>
  simp at hv;subst hv;have hlt:=lt_of_get hx;have hnew:=heap_alloc_new w.drew (.cells (bytesRow ⟨l.toArray⟩ (grownCap w l.length 0 el)) el ((bytesRow ⟨l.toArray⟩ (grownCap w l.length 0 el)).size,(bytesRow ⟨l.toArray⟩ (grownCap w l.length 0 el)).size+1))
  have hc:(bytesRow ⟨l.toArray⟩ (grownCap w l.length 0 el))[kk]?=some (.int .u8 x.toNat):=by
   unfold bytesRow;rw [Array.getElem?_append_left (by simpa using hlt)];simp only [Array.getElem?_map,List.getElem?_toArray,hx,Option.map_some]
  have h1:byteR.sz=1:=rfl;have hsz:w.drew.heap.size=w.heap.size:=rfl;rw [hsz] at hnew;simp only [World.cell?,hnew,h1,Nat.zero_add,Nat.mul_one,Nat.add_zero,Option.isSome_none,Bool.false_eq_true,if_false,hc]
theorem Rn.s2b {s t el:TypeId} {x:Operand} {l:List UInt8} (ho:ops[i]?=some ⟨some d,.convert s t x,ty,pos,af,g⟩) (hg:gok e ops g=true) (hn:Nat.blt d n=true) (hs:P.underlying s=some .string) (ht:P.underlying t=some (.slice el)) (he:P.underlying el=some (.int .u8)) (hx:ev e x=some (Str l)) (hl:l.length≤maxLen)
 (h:∀ b c w',b=w.heap.size→l.length≤c→c≤maxLen→Ext w w'→b<w'.heap.size→Sl (λx=>x=b) w' (some ⟨b,0,none⟩) byteR l→Rn P f n R (.inRegion ops rest::k) ((d,.slice (some ⟨b,0,none⟩) l.length c)::e) w'):Rn P f n R (.inRegion ops (i::rest)::k) e w:=by
 obtain ⟨c,w',hr,h1,h2,h3,h4,h5⟩:=s2b_run (P:=P) hs ht he l hl w;exact Rn.opV ho hg rfl hn (λa hf=>by simp [execOp,ev_eval hf hx,hr]) (h _ c w' rfl h1 h2 h3 (by omega) h5)
theorem b2s_run {D:Nat→Prop} {s t el:TypeId} {A:Option Addr} {l:List UInt8} {c:Nat} (hs:P.underlying s=some (.slice el)) (ht:P.underlying t=some .string) (he:P.underlying el=some (.int .u8)) (hS:Sl D w A byteR l):(convert s t (.slice A l.length c)).run P w=.ok (Str l) w:=by
 cases A with
 | none=>
  have:l=[]:=by
   by_cases hne:l=[]
   ·exact hne
   ·obtain ⟨b,o,h,_⟩:=hS hne;cases h
  subst this;exact run_convert_bytes_nil w s el hs he 0 c t ht
 | some a=>
  refine run_convert_bytes_back w s t el a c l hs he ht λj hj=>?_
  obtain ⟨b,o,hA,_,hel⟩:=hS (by rintro rfl;simp at hj)
  cases hA
  obtain ⟨vs,h1,rfl,_⟩:=hel j l[j] (List.getElem?_eq_getElem hj);have:=h1 0 (.int .u8 l[j].toNat) rfl;have hsz:byteR.sz=1:=rfl;rw [hsz,Nat.mul_one,Nat.add_zero] at this;rw [Addr.add_none,this]
theorem V.b2s {D:Nat→Prop} {s t el:TypeId} {x:Operand} {A:Option Addr} {l:List UInt8} {m c:Nat} (hs:P.underlying s=some (.slice el)) (ht:P.underlying t=some .string) (he:P.underlying el=some (.int .u8)) (hx:ev e x=some (.slice A m c)) (hm:l.length=m) (hS:Sl D w A byteR l) :
 OpV P n e w ⟨dst,.convert s t x,ty,pos,af,g⟩ (Str l) w:=λa hf=>by
 subst hm;simp [execOp,ev_eval hf hx,b2s_run (P:=P) (c:=c) hs ht he hS]
abbrev Ms:=List (List UInt8×Value×Nat)
def ent (p:List UInt8×Value×Nat):MapEntry:={ key:=Str p.1,val:=p.2.1,born:=p.2.2 }
def Mp (w:World) (b:Nat) (l:Ms) (clock:Nat):Prop:=w.heap[b]?=some (.map (l.map ent).toArray clock)
theorem Mp.lt {b:Nat} {l:Ms} {c:Nat} (h:Mp w b l c):b<w.heap.size:=by
 rcases Nat.lt_or_ge b w.heap.size with hlt|hge
 ·exact hlt
 ·unfold Mp at h;rw [Array.getElem?_eq_none hge] at h;cases h
theorem Mp.fr {S:Nat→Prop} {w':World} {b:Nat} {l:Ms} {c:Nat} (h:Mp w b l c) (hf:Fr S w w') (hn:¬S b):Mp w' b l c:=(hf.keep b h.lt hn).trans h
theorem Mp.ext {w':World} {b:Nat} {l:Ms} {c:Nat} (h:Mp w b l c) (hf:Ext w w'):Mp w' b l c:=h.fr hf λhh=>hh
def lookM (l:Ms) (key:List UInt8):Option Value:=(l.find? λp=>decide (p.1=key)).map (·.2.1)
def putM (key:List UInt8) (v:Value) (clock:Nat):Ms→Ms
 | []=>[(key,v,clock)]
 | p::r=>if p.1=key then (key,v,p.2.2)::r else p::putM key v clock r
def goM (key:List UInt8):Ms→Nat→Option (Nat×Value)
 | [],_=>none
 | p::r,i=>if p.1=key then some (i,p.2.1) else goM key r (i+1)
theorem findNow_goM (key:List UInt8):∀ (l:Ms) (i:Nat),Instr.findNow .string (Str key) (l.map ent) i=some (goM key l i)
 | [],i=>rfl
 | p::r,i=>by
  have hb:((⟨key.toArray⟩:ByteArray)==⟨p.1.toArray⟩)=decide (p.1=key):=by
   rw [beq_toListBytes,ByteArray.toList_mk,ByteArray.toList_mk]
   by_cases h:p.1=key
   ·simp [h]
   ·simp [h];exact λhh=>h hh.symm
  simp only [List.map_cons,Instr.findNow,ent,Instr.sameNow,hb]
  by_cases h:p.1=key
  ·simp [goM,h]
  ·simp only [h,decide_false,goM,if_false]
   exact findNow_goM key r (i+1)
theorem goM_look (key:List UInt8):∀ (l:Ms) (i:Nat),(goM key l i).map (·.2)=lookM l key
 | [],_=>rfl
 | p::r,i=>by
  by_cases h:p.1=key
  ·simp [goM,lookM,h]
  ·simp only [goM,h,if_false,goM_look key r,lookM,List.find?_cons,decide_false]
theorem goM_idx (key:List UInt8):∀ (l:Ms) (i j:Nat) (v:Value),goM key l i=some (j,v)→i≤j∧∃ p,l[j-i]?=some p∧p.1=key
 | [],_,_,_,h=>by cases h
 | p::r,i,j,v,h=>by
  by_cases hp:p.1=key
  ·simp [goM,hp] at h;obtain ⟨rfl,_⟩:=h;exact ⟨Nat.le_refl _,p,by simp,hp⟩
  ·simp only [goM,hp,if_false] at h
   obtain ⟨h1,q,h2,h3⟩:=goM_idx key r (i+1) j v h;refine ⟨by omega,q,?_,h3⟩
   have:j-i=(j-(i+1))+1:=by omega
   rw [this];simpa using h2
theorem putM_some (key:List UInt8) (v:Value) (c:Nat):∀ (l:Ms) (i j:Nat) (u:Value),goM key l i=some (j,u)→((l.map ent).toArray.modify (j-i) λe=>{ e with key:=Str key,val:=v })=((putM key v c l).map ent).toArray
 | [],_,_,_,h=>by cases h
 | p::r,i,j,u,h=>by
  by_cases hp:p.1=key
  ·simp [goM,hp] at h;obtain ⟨rfl,_⟩:=h
   apply Array.ext'
   simp [putM,hp,ent,List.modify]
  ·simp only [goM,hp,if_false] at h
   have hle:=(goM_idx key r (i+1) j u h).1;have ih:=congrArg Array.toList (putM_some key v c r (i+1) j u h)
   apply Array.ext'
   have e1:j-i=(j-(i+1))+1:=by omega
   rw [e1];simp only [Array.toList_modify,List.map_cons,putM,hp,if_false,List.modify_succ_cons] at ih ⊢;rw [ih]
theorem putM_none (key:List UInt8) (v:Value) (c:Nat):∀ (l:Ms) (i:Nat),goM key l i=none→((l.map ent).toArray.push { key:=Str key,val:=v,born:=c })=((putM key v c l).map ent).toArray
 | [],_,_=>rfl
 | p::r,i,h=>by
  by_cases hp:p.1=key
  ·simp [goM,hp] at h
  ·simp only [goM,hp,if_false] at h
   have ih:=congrArg Array.toList (putM_none key v c r (i+1) h)
   apply Array.ext'
   simp only [Array.toList_push,List.map_cons,putM,hp,if_false,List.cons_append] at ih ⊢;rw [ih]
theorem checkKey_str {kt:TypeId} (hk:P.underlying kt=some .string) (b:Bool) (v:Value) (w:World):(Instr.checkKey b 10000 kt v).run P w=.ok () w:=by
 have h:∀ m:Nat,(Instr.checkKey b (m+1) kt v).run P w=.ok () w:=λm=>by simp [Instr.checkKey,run_underlying hk]
 exact h 9999
theorem run_getObj {b:Nat} {l:Ms} {c:Nat} (h:Mp w b l c):(getObj b).run P w=.ok (.map (l.map ent).toArray c) w:=by
 unfold Mp at h;simp [getObj,Sem.run,h]
theorem run_setObj {b:Nat} {l:Ms} {c:Nat} (h:Mp w b l c) (o:Obj):(setObj b o).run P w=.ok () { w with heap:=w.heap.setIfInBounds b o }:=by
 unfold Mp at h;simp [setObj,Sem.run,h]
theorem Mp.set {b:Nat} {l:Ms} {c:Nat} (h:Mp w b l c) (l':Ms) (c':Nat):Mp { w with heap:=w.heap.setIfInBounds b (.map (l'.map ent).toArray c') } b l' c'∧Fr (λx=>x=b) w { w with heap:=w.heap.setIfInBounds b (.map (l'.map ent).toArray c') }:=by
 have hlt:=h.lt;refine ⟨?_,rfl,rfl,rfl,by simp,λx hx hn=>?_⟩
 ·unfold Mp;simp [Array.getElem?_setIfInBounds,hlt]
 ·rw [Array.getElem?_setIfInBounds_ne (Ne.symm hn)]
theorem run_findKey {kt:TypeId} (hk:P.underlying kt=some .string) (key:List UInt8) (l:Ms) (w:World):(Instr.findKey kt (Str key) (l.map ent).toArray.toList).run P w=.ok (goM key l 0) w:=by
 simp only [Instr.findKey,Sem.run_bind,run_underlying hk,Result.andThen_ok,List.toList_toArray,findNow_goM,Sem.run_pure]
theorem V.lkpO {t kt et:TypeId} {x y:Operand} {b c:Nat} {l:Ms} {key:List UInt8} {z:Value} (ht:P.underlying t=some (.map kt et)) (hk:P.underlying kt=some .string) (hz:∀ w,(zeroValue et).run P w=.ok z w) (hx:ev e x=some (.map (some b))) (hy:ev e y=some (Str key)) (hM:Mp w b l c) :
 OpV P n e w ⟨dst,.lookup t x y true,ty,pos,af,g⟩ (.tuple #[(lookM l key).getD z,.bool (lookM l key).isSome]) w:=λa hf=>by
 have hl:=goM_look key l 0;simp only [execOp,ev_eval hf hx,ev_eval hf hy,Instr.lookup,Sem.run_bind,run_underlying ht,Result.andThen_ok,run_getObj hM,Sem.run_pure,checkKey_str hk,run_findKey hk]
 cases h:goM key l 0 with
 | none=>rw [h] at hl;simp [hz,← hl]
 | some p=>rw [h] at hl;simp [← hl]
theorem V.lenM {x:Operand} {b c:Nat} {l:Ms} {t kt et:TypeId} (ht:P.underlying t=some (.map kt et)) (hx:ev e x=some (.map (some b))) (hM:Mp w b l c) :
 OpV P n e w ⟨dst,.call { callee:=.builtin .len,args:=#[x],argTypes:=#[t] },ty,pos,af,g⟩ (.int .i64 l.length) w:=λa hf=>by
 simp [execOp,resolve,invoke,builtin,ev_eval hf hx,Builtin.len_,run_underlying ht,goInt,run_getObj hM]
theorem mapUpdate_run {t kt et:TypeId} {b c:Nat} {l:Ms} (key:List UInt8) (v:Value) (ht:P.underlying t=some (.map kt et)) (hk:P.underlying kt=some .string) (hM:Mp w b l c) :
 ∃ c' w',(Instr.mapUpdate t (.map (some b)) (Str key) v).run P w=.ok () w'∧Mp w' b (putM key v c l) c'∧Fr (λx=>x=b) w w'∧c'=(if (lookM l key).isSome then c else c+1):=by
 have hl:=goM_look key l 0
 cases h:goM key l 0 with
 | none=>
  obtain ⟨h1,h2⟩:=hM.set (putM key v c l) (c+1);refine ⟨_,_,?_,h1,h2,by rw [← hl,h];rfl⟩;simp only [Instr.mapUpdate,Sem.run_bind,run_underlying ht,Result.andThen_ok,run_getObj hM,checkKey_str hk,run_findKey hk,h];rw [putM_none key v c l 0 h];exact run_setObj hM _
 | some p=>
  obtain ⟨j,u⟩:=p;obtain ⟨h1,h2⟩:=hM.set (putM key v c l) c;refine ⟨_,_,?_,h1,h2,by rw [← hl,h];rfl⟩;obtain ⟨_,q,hq,hqk⟩:=goM_idx key l 0 j u h;rw [Nat.sub_zero] at hq
  have hkey:(((l.map ent).toArray[j]?).map (·.key)).getD (Str key)=Str key:=by
   simp [hq,ent,hqk]
  have hstay:(Instr.keyThatStays (Str key) (Str key)).run P w=.ok (Str key) w:=by
   have:Instr.sameBits 10000 (Str key) (Str key)=true:=by
    have hb:((⟨key.toArray⟩:ByteArray)==⟨key.toArray⟩)=true:=by rw [beq_toListBytes];simp
    simpa [Instr.sameBits,Str] using hb
   simp only [Instr.keyThatStays,this,if_true,Sem.run_pure]
  simp only [Instr.mapUpdate,Sem.run_bind,run_underlying ht,Result.andThen_ok,run_getObj hM,checkKey_str hk,run_findKey hk,h,hkey,hstay];have:=putM_some key v c l 0 j u h;rw [Nat.sub_zero] at this;rw [this];exact run_setObj hM _
theorem Rn.mkM {t:TypeId} (ho:ops[i]?=some ⟨some d,.makeMap t none,ty,pos,af,g⟩) (hg:gok e ops g=true) (hn:Nat.blt d n=true)
 (h:∀ b w',b=w.heap.size→Mp w' b [] 0→Ext w w'→Rn P f n R (.inRegion ops rest::k) ((d,.map (some b))::e) w'):Rn P f n R (.inRegion ops (i::rest)::k) e w:=
 Rn.opV (w':=w.alloc (.map #[] 0)) ho hg rfl hn (λa hf=>by simp [execOp,Instr.makeMap]) (h w.heap.size _ rfl (heap_alloc_new w _) (Ext.alloc w _))
end
end Go.Wk
set_option linter.unusedVariables false
set_option linter.unusedSimpArgs false
namespace Go.Wk
open Go Go.RowKit
section
variable {P:Program} {f:FuncId} {n:Nat} {R:Ending→World→Prop} {k:List Item} {e:Env} {w:World}
variable {ops:Array Oper} {i:Nat} {rest:List Nat} {d:Nat} {dst:Option Nat} {ty:TypeId} {pos:String} {af:Array Edge} {g:Option (Nat×Bool)}
theorem b64_or (t:TypeId) (u v:UInt64):binOp .or t (.int .u64 u.toNat) (.int .u64 v.toNat)=pure (.int .u64 (u|||v).toNat):=by
 rw [binOp_or,intBits_or];congr 2
 have h1:BitVec.ofInt 64 (u.toNat:Int)=u.toBitVec:=by apply BitVec.eq_of_toNat_eq;simp
 have h2:BitVec.ofInt 64 (v.toNat:Int)=v.toBitVec:=by apply BitVec.eq_of_toNat_eq;simp
 show IntKind.u64.wrap ((BitVec.ofInt 64 (u.toNat:Int)|||BitVec.ofInt 64 (v.toNat:Int)).toNat:Int)=_;rw [h1,h2,wu64 (by omega) (by have:=(u.toBitVec|||v.toBitVec).isLt;omega)];simp
end
end Go.Wk
set_option linter.unusedVariables false
set_option linter.unusedSimpArgs false
namespace Go.Wk
open Go Go.RowKit
section
variable {P:Program} {f:FuncId} {n:Nat} {R:Ending→World→Prop} {k:List Item} {e:Env} {w:World}
variable {ops:Array Oper} {i:Nat} {rest:List Nat} {d:Nat} {dst:Option Nat} {ty:TypeId} {pos:String} {af:Array Edge} {g:Option (Nat×Bool)}
theorem V.op2 {q q':IntKind} {op:BinOp} {x y:Operand} {a b:Int} {c:Value} {t u:TypeId} (hx:ev e x=some (.int q a)) (hy:ev e y=some (.int q' b)) (hop:(binOp op t (.int q a) (.int q' b))=pure c) :
 OpV P n e w ⟨dst,.binOp op t x y u,ty,pos,af,g⟩ c w:=λa hf=>by simp [execOp,ev_eval hf hx,ev_eval hf hy,eqGuard_at_int,hop]
abbrev I64 (u:UInt64):Value:=.int .u64 u.toNat
abbrev I8 (u:UInt8):Value:=.int .u8 u.toNat
theorem V.o64 {op:BinOp} {x y:Operand} {a b:Int} {t v:TypeId} {c:UInt64} (hx:ev e x=some (.int .u64 a)) (hy:ev e y=some (.int .u64 b)) (p q:UInt64) (ha:a=p.toNat) (hb:b=q.toNat) (hop:(binOp op t (I64 p) (I64 q))=pure (I64 c)) :
 OpV P n e w ⟨dst,.binOp op t x y v,ty,pos,af,g⟩ (I64 c) w:=by subst ha hb;exact V.op2 hx hy hop
theorem b64_shr (t:TypeId) (u:UInt64) (q:IntKind) (m:Nat) (hm:m<64):binOp .shr t (I64 u) (.int q (m:Int))=pure (I64 (u>>>UInt64.ofNat m)):=by
 rw [binOp_shr,shift_shr .u64 q _ _ (by omega) (by simp [IntKind.bits];omega)]
 congr 2
 rw [UInt64.toNat_shiftRight]
 have:(UInt64.ofNat m).toNat%64=m:=by rw [UInt64.toNat_ofNat'];omega
 rw [this,Nat.shiftRight_eq_div_pow];simp
theorem b64_shl (t:TypeId) (u:UInt64) (q:IntKind) (m:Nat) (hm:m<64):binOp .shl t (I64 u) (.int q (m:Int))=pure (I64 (u<<<UInt64.ofNat m)):=by
 rw [binOp_shl,shift_shl .u64 q _ _ (by omega) (by simp [IntKind.bits];omega)]
 congr 2
 rw [UInt64.toNat_shiftLeft]
 have:(UInt64.ofNat m).toNat%64=m:=by rw [UInt64.toNat_ofNat'];omega
 rw [this,Nat.shiftLeft_eq];simp [IntKind.wrap,IntKind.signed,IntKind.bits]
theorem V.sh64 {op:BinOp} {q:IntKind} {x y:Operand} {a b:Int} {t v:TypeId} {c:UInt64} (hx:ev e x=some (.int .u64 a)) (hy:ev e y=some (.int q b)) (p:UInt64) (m:Nat) (ha:a=p.toNat) (hb:b=m) (hop:(binOp op t (I64 p) (.int q m))=pure (I64 c)) :
 OpV P n e w ⟨dst,.binOp op t x y v,ty,pos,af,g⟩ (I64 c) w:=by subst ha hb;exact V.op2 hx hy hop
theorem wc8 (c:UInt8):IntKind.i64.wrap (c.toNat:Int)=c.toNat:=w64 (by omega) (by have:=c.toNat_lt;omega)
end
end Go.Wk
namespace Go.Wk
open Go Go.RowKit
def Rep.Flat {α:Type} (rep:Rep α):Prop:=∀ (D D':Nat→Prop) (w w':World) (vs:List Value) (x:α),rep.rel D w vs x→rep.rel D' w' vs x
theorem Rep.flat_flat {α:Type} (sz:Nat) (enc:α→List Value) (ok:α→Prop) (hl:∀ x,(enc x).length=sz) (h1:∀ x,∀ u∈enc x,u.oneCell'=true) (hp:0<sz):(Rep.flat sz enc ok hl h1 hp).Flat:=λ_ _ _ _ _ _ h=>h
theorem byte_flat:byteR.Flat:=Rep.flat_flat _ _ _ _ _ _
theorem Own.flat {α:Type} {rep:Rep α} (hr:rep.Flat) {B c:Nat} {D D':Nat→Prop} {w:World} {et:TypeId} {A:Option Addr} {xs:List α} (h:Own B D w et A c rep xs):Own B D' w et A c rep xs:=by
 refine ⟨h.1,h.2.1,?_⟩
 rcases h.2.2 with h0|⟨g,cs,vss,rfl,h1,h2,h3,h4,h5,h6⟩
 ·exact .inl h0
 ·exact .inr ⟨g,cs,vss,rfl,h1,h2,h3,h4,λk vs x hv hx=>hr _ _ _ _ _ _ (h5 k vs x hv hx),h6⟩
theorem Src.flat {α:Type} {rep:Rep α} (hr:rep.Flat) {D D':Nat→Prop} {w:World} {A:Option Addr} {ys:List α} (h:Src D w A rep ys):Src D' w A rep ys:=λhne=>by
 obtain ⟨b,o,vss,h1,h2,h3,h4⟩:=h hne;exact ⟨b,o,vss,h1,h2,λk vs x hv hx=>hr _ _ _ _ _ _ (h3 k vs x hv hx),h4⟩
section
variable {P:Program} {f:FuncId} {n:Nat} {R:Ending→World→Prop} {k:List Item} {e:Env} {w:World}
variable {ops:Array Oper} {i:Nat} {rest:List Nat} {d:Nat} {dst:Option Nat} {ty:TypeId} {pos:String} {af:Array Edge} {g:Option (Nat×Bool)}
end
theorem Sl.nil_of {α:Type} {rep:Rep α} {D:Nat→Prop} {w:World} {xs:List α} (h:Sl D w none rep xs):xs=[]:=by
 cases xs with
 | nil=>rfl
 | cons x r=>obtain ⟨b,o,h1,_⟩:=h (by simp);cases h1
theorem Sl.all {α:Type} {rep:Rep α} {D:Nat→Prop} {w:World} {A:Option Addr} {xs:List α} (h:Sl D w A rep xs):Sl All w A rep xs:=h.mono λ_ _=>trivial
theorem Own.all {α:Type} {rep:Rep α} {B c:Nat} {D:Nat→Prop} {w:World} {et:TypeId} {A:Option Addr} {xs:List α} (h:Own B D w et A c rep xs):Sl All w A rep xs:=h.sl.all
end Go.Wk
namespace Go.Wk
open Go Go.RowKit
theorem elOk_of {P:Program} {el:TypeId} {sz by_:Nat} (h:((P.info? el).map λi=>(i.zero.map λz=>z.cells.size,i.size,i.bytes))=some (some sz,sz,by_)) (hp:0<sz):ElOk P el sz by_:=by
 cases hi:P.info? el with
 | none=>rw [hi] at h;cases h
 | some i=>
  rw [hi] at h;simp only [Option.map_some,Option.some.injEq,Prod.mk.injEq] at h;obtain ⟨h1,h2,h3⟩:=h
  cases hz:i.zero with
  | none=>rw [hz] at h1;cases h1
  | some z=>rw [hz] at h1;exact ⟨i,z,hi,hz,h2,h3,by simpa using h1,hp⟩
end Go.Wk
namespace Go.Wk
open Go Go.RowKit
abbrev bnd (e:Env) (o:Option Operand) (p d:Nat):Prop:=match o with | some y=>∃ j,ev e y=some (.int .i64 j)∧j=(p:Int) | none=>p=d
section
variable {P:Program} {f:FuncId} {n:Nat} {R:Ending→World→Prop} {k:List Item} {e:Env} {w:World}
variable {ops:Array Oper} {i:Nat} {rest:List Nat} {d:Nat} {dst:Option Nat} {ty:TypeId} {pos:String} {af:Array Edge} {g:Option (Nat×Bool)}
theorem Rn.cutSl {α:Type} {rep:Rep α} {D:Nat→Prop} {x:Operand} {lo hi:Option Operand} {A:Option Addr} {m c s:Nat} {t el:TypeId} {xs:List α} (p q:Nat) (ho:ops[i]?=some ⟨some d,.slice t x lo hi none,ty,pos,af,g⟩) (hg:gok e ops g=true) (hn:Nat.blt d n=true) (ht:P.underlying t=some (.slice el)) (hs:∀ w,(sizeOf el).run P w=.ok s w) (hx:ev e x=some (.slice A m c))
 (hS:Sl D w A rep xs) (hm:xs.length=m) (hmc:m≤c) (hsz:rep.sz=s)
 (hlo:bnd e lo p 0) (hhi:bnd e hi q m) (h1:p≤q) (h2:q≤m)
 (h:∀ A',Sl D w A' rep ((xs.take q).drop p)→((xs.take q).drop p).length≤c-p→Rn P f n R (.inRegion ops rest::k) ((d,.slice A' ((xs.take q).drop p).length (c-p))::e) w):Rn P f n R (.inRegion ops (i::rest)::k) e w:=by
 have hl:((xs.take q).drop p).length=q-p:=by rw [List.length_drop,List.length_take];omega
 have hcut:=hS.cut (c:=c) p q (by omega) (by omega);rw [hsz] at hcut;have:=h _ hcut (by rw [hl];omega);rw [hl] at this;exact Rn.opV ho hg rfl hn (V.cutV p q ht hs hx hlo hhi h1 (by omega)) this
end
end Go.Wk
set_option linter.unusedVariables false
set_option linter.unusedSimpArgs false
namespace Go.Wk
open Go Go.RowKit
variable {K:Act→World→Prop}
section
variable {P:Program} {f:FuncId} {n:Nat} {R:Ending→World→Prop} {k:List Item} {e:Env} {w:World}
variable {ops:Array Oper} {S:World→Prop} {fuel:Nat} {listed:Array Bool} {d:Nat} {ty:TypeId} {pos:String} {af:Array Edge} {g:Option (Nat×Bool)}
theorem RH.box {t:TypeId} {x:Operand} {v:Value} {cs:List Value} (i:Nat) (hr:Region.ready .any ops listed=[i]) (ho:ops[i]?=some ⟨some d,.box t x,ty,pos,af,g⟩) (hg:gok e ops g=true) (hn:Nat.blt d n=true) (hx:ev e x=some v) (hc:v.cells=cs.toArray)
 (h:∀ b w',b=w.heap.size→Blk w' b t cs→Ext w w'→S w'∧RG P n K ops S fuel (listed.setIfInBounds i true) ((d,.pointer (some ⟨b,0,none⟩))::e) w'):RG P n K ops S (fuel+1) listed e w:=by
 obtain ⟨h6,h7⟩:=h w.heap.size (w.alloc (.cells cs.toArray t)) rfl (Blk.new w t cs) (Ext.alloc w _);exact RH.one i hr ho hg rfl hn (V.box hx hc) h6 h7
end
theorem ones {l:List Value} (h:l.all (·.oneCell')=true):∀ u∈l,u.oneCell'=true:=List.all_eq_true.1 h
theorem szs {us:List Value} {s:Nat} (h:us.all (λu=>u.cells.size==s)=true):∀ u∈us,u.cells.size=s:=λu hu=>by simpa using List.all_eq_true.1 h u hu
theorem V.to {P:Program} {n:Nat} {e:Env} {w w':World} {o:Oper} {u v:Value} (h:OpV P n e w o u w') (hv:u=v):OpV P n e w o v w':=hv▸h
theorem Sl.where_ {α:Type} {rep:Rep α} {D:Nat→Prop} {w:World} {A:Option Addr} {xs:List α} (h:Sl D w A rep xs) (hne:xs≠[]):∃ b o,A=some ⟨b,o,none⟩∧∀ k x,xs[k]?=some x→∃ vs,Rd w b (o+k*rep.sz) vs∧rep.rel D w vs x:=by
 obtain ⟨b,o,h1,_,h3⟩:=h hne;exact ⟨b,o,h1,h3⟩
theorem Sl.bytes {D:Nat→Prop} {w:World} {A:Option Addr} {xs:List UInt8} (h:Sl D w A byteR xs) (hne:xs≠[]):∃ b o,A=some ⟨b,o,none⟩∧∀ k x,xs[k]?=some x→Rd w b (o+k*1) [I8 x]:=by
 obtain ⟨b,o,h1,h3⟩:=h.where_ hne;exact ⟨b,o,h1,λk x hx=>by obtain ⟨vs,h4,rfl,_⟩:=h3 k x hx;exact h4⟩
end Go.Wk
set_option linter.unusedVariables false
set_option linter.unusedSimpArgs false
namespace Go.Wk
open Go Go.RowKit
def fuel:Nat:=4611686018427387904
def jn {α β:Type} (F:α) (B:α→β):β:=B F
abbrev W64 (z:Int):Int:=IntKind.i64.wrap z
def idx {α:Type} (l:List α) (i:Int):Option α:=if 0≤i then l[i.toNat]? else none
def cutL {α:Type} (l:List α) (a b:Int):Option (List α):=if 0≤a∧a≤b∧b≤l.length then some ((l.take b.toNat).drop a.toNat) else none
def appL {α:Type} (l m:List α):Option (List α):=if l.length+m.length≤1073741824 then some (l++m) else none
def catS (a b:List UInt8):Option (List UInt8):=if a.length+b.length≤9223372036854775807 then some (a++b) else none
def lenS (a:List UInt8):Option (List UInt8):=if a.length≤1073741824 then some a else none
section
variable {α β:Type} {r:β}
theorem iteT {c:Prop} [Decidable c] {a b:Option β} (h:c) (hM:(if c then a else b)=some r):a=some r:=by rw [if_pos h] at hM;exact hM
theorem iteF {c:Prop} [Decidable c] {a b:Option β} (h:¬c) (hM:(if c then a else b)=some r):b=some r:=by rw [if_neg h] at hM;exact hM
theorem bindE {o:Option α} {f:α→Option β} (h:o.bind f=some r):∃ a,o=some a∧f a=some r:=Option.bind_eq_some_iff.1 h
theorem jnE {F:α} {B:α→Option β} (h:jn F B=some r):∃ j,j=F∧B j=some r:=⟨F,rfl,h⟩
theorem someE {a:β} (h:some a=some r):r=a:=(Option.some.inj h).symm
theorem idxE {l:List α} {i:Int} {x:α} (h:idx l i=some x):∃ k:Nat,i=k∧l[k]?=some x∧k<l.length:=by
 unfold idx at h
 split at h
 ·exact ⟨i.toNat,by omega,h,lt_of_get h⟩
 ·cases h
theorem cutE {l m:List α} {a b:Int} (h:cutL l a b=some m):∃ p q:Nat,a=p∧b=q∧p≤q∧q≤l.length∧m=(l.take q).drop p:=by
 unfold cutL at h
 split at h
 ·rename_i hh;exact ⟨a.toNat,b.toNat,by omega,by omega,by omega,by omega,(Option.some.inj h).symm⟩
 ·cases h
theorem appE {l m n:List α} (h:appL l m=some n):l.length+m.length≤1073741824∧n=l++m:=by
 unfold appL at h
 split at h
 ·rename_i hh;exact ⟨hh,(Option.some.inj h).symm⟩
 ·cases h
theorem catE {a b c:List UInt8} (h:catS a b=some c):a.length+b.length≤9223372036854775807∧c=a++b:=by
 unfold catS at h
 split at h
 ·rename_i hh;exact ⟨hh,(Option.some.inj h).symm⟩
 ·cases h
theorem lenE {a b:List UInt8} (h:lenS a=some b):a.length≤1073741824∧b=a:=by
 unfold lenS at h
 split at h
 ·rename_i hh;exact ⟨hh,(Option.some.inj h).symm⟩
 ·cases h
end
section
variable {p q:Prop} [Decidable p] [Decidable q]
theorem andT (h:p):Value.bool (decide q)=.bool (decide (p∧q)):=by simp [h]
theorem andF (h:¬p):Value.bool false=.bool (decide (p∧q)):=by simp [h]
theorem orT (h:p):Value.bool true=.bool (decide (p∨q)):=by simp [h]
theorem orF (h:¬p):Value.bool (decide q)=.bool (decide (p∨q)):=by simp [h]
theorem nandF (h:¬p):Value.bool (decide q)=.bool (decide (¬p∧q)):=by simp [h]
theorem nandT (h:p):Value.bool false=.bool (decide (¬p∧q)):=by simp [h]
theorem norT (h:p):Value.bool (decide q)=.bool (decide (¬p∨q)):=by simp [h]
theorem norF (h:¬p):Value.bool true=.bool (decide (¬p∨q)):=by simp [h]
end
section
variable {P:Program} {f:FuncId} {n:Nat} {R:Ending→World→Prop} {k:List Item} {e:Env} {w:World}
theorem Rn.joinG {G R':Type} {it:Item} {r:R'} (E:G→Env) (I:G→World→Prop) (K:G→Option R')
 (rest:∀ g w',I g w'→K g=some r→Rn P f n R k (E g) w')
 (h:(∀ g w' e',Sub (E g) e'→I g w'→K g=some r→Rn P f n R k e' w')→Rn P f n R (it::k) e w):Rn P f n R (it::k) e w:=
 h λg w' _ hs hI hK=>(rest g w' hI hK).weaken hs
theorem Rn.cutR {ops:Array Oper} {ix:List Nat} (rest':List Nat) (E':Env)
 (h:(∀ e',Sub E' e'→Rn P f n R (.inRegion ops rest'::k) e' w)→Rn P f n R (.inRegion ops ix::k) e w)
 (rest:Rn P f n R (.inRegion ops rest'::k) E' w):Rn P f n R (.inRegion ops ix::k) e w:=h λ_ hs=>rest.weaken hs
theorem Rn.loopF {G R':Type} {c:Code} {r:R'} (E:G→Env) (I:G→World→Prop) (M:Nat→G→Option R') (N:Nat) (g:G) (hE:Sub (E g) e) (hI:I g w) (hM:M N g=some r) (h0:∀ g,M 0 g=none)
 (body:∀ m g w,I g w→M (m+1) g=some r→(∀ g' w' e',Sub (E g') e'→I g' w'→M m g'=some r→Rn P f n R (.inLoop c::k) e' w')→Rn P f n R (.code c::.inLoop c::k) (E g) w) :
 Rn P f n R (.code (.loop c)::k) e w:=by
 have key:∀ m g w,I g w→M m g=some r→Rn P f n R (.code c::.inLoop c::k) (E g) w:=by
  intro m
  induction m with
  | zero=>intro g w _ h;rw [h0] at h;cases h
  | succ m ih=>
   intro g w hI hM
   exact body m g w hI hM λg' w' e' hs hI' hM'=>Rn.inLoop ((ih g' w' hI' hM').weaken hs)
 exact Rn.loop ((key N g w hI hM).weaken hE)
end
structure Rs where
 F:Nat→Prop
 H:(Nat→Prop)→World→Prop
 keep:∀ {Z Z':Nat→Prop} {w w':World},H Z w→(∀ b,F b→b<w.heap.size→w'.heap[b]?=w.heap[b]?)→(∀ b,Z b→b<w.heap.size→w'.heap[b]?=w.heap[b]?)→(∀ b,Z b→b<w.heap.size→Z' b)→H Z' w'
 lt:∀ {Z w},H Z w→∀ b,F b→b<w.heap.size
section
variable {α:Type}
def slR (A:Option Addr) (c:Nat) (rep:Rep α) (xs:List α):Rs where
 F:=No
 H:=λZ w=>xs.length≤c∧c≤maxLen∧Sl Z w A rep xs
 keep:=λ⟨h1,h2,h3⟩ _ hZ hZ'=>⟨h1,h2,(h3.bd.keep (λb hb hlt=>hZ b hb.1 hlt)).mono λb hb=>hZ' b hb.1 hb.2⟩
 lt:=λ_ _ h=>h.elim
def rdR (b o:Nat) (vs:List Value):Rs where
 F:=No
 H:=λZ w=>(vs≠[]→Z b)∧Rd w b o vs
 keep:=fun {Z Z' w w'} ⟨h1,h2⟩ _ hZ hZ'=>by
  by_cases hv:vs=[]
  ·subst hv;exact ⟨λh=>(h rfl).elim,λj v h=>by simp at h⟩
  ·have hlt:b<w.heap.size:=by
    cases vs with
    | nil=>exact (hv rfl).elim
    | cons v t=>exact World.block_lt_of_cell? w _ (h2 0 v rfl)
   exact ⟨λ_=>hZ' b (h1 hv) hlt,h2.keep λhb=>hZ b (h1 hv) hb⟩
 lt:=λ_ _ h=>h.elim
def boxR (b:Nat) (t:TypeId) (cs:List Value):Rs where
 F:=λx=>x=b
 H:=λ_ w=>Blk w b t cs
 keep:=fun {_ _ w _} h hF _ _=>by have:=hF b rfl h.lt;unfold Blk at h ⊢;rw [this];exact h
 lt:=λh b hb=>hb▸h.lt
def ownR (et:TypeId) (A:Option Addr) (c:Nat) (rep:Rep α) (xs:List α):Rs where
 F:=λx=>ob A x
 H:=λZ w=>Own 0 Z w et A c rep xs
 keep:=fun {Z Z' w w'} h hF hZ hZ'=>by
  refine ⟨h.1,h.2.1,?_⟩
  rcases h.2.2 with h0|⟨g,cs,vss,rfl,h1,h2,h3,h4,h5,h6⟩
  ·exact .inl h0
  ·refine .inr ⟨g,cs,vss,rfl,h1,?_,h3,h4,λk vs x hv hx=>rep.mono (rep.keep (rep.bd (h5 k vs x hv hx)) λb hb hlt=>hZ b hb.1 hlt) λb hb=>hZ' b hb.1 hb.2,h6⟩
   have:=hF g rfl h2.lt;unfold Blk at h2 ⊢;rw [this];exact h2
 lt:=λh b hb=>(h.base b hb).2
def Rs.Flat (r:Rs):Prop:=∀ Z Z' w,r.H Z w→r.H Z' w
theorem ownR_flat {rep:Rep α} (h:rep.Flat) (et:TypeId) (A:Option Addr) (c:Nat) (xs:List α):(ownR et A c rep xs).Flat:=λ_ _ _ hh=>Own.flat h hh
theorem slR_all {A:Option Addr} {c:Nat} {rep:Rep α} {xs:List α} {Z:Nat→Prop} {w:World} (h:(slR A c rep xs).H Z w):(slR A c rep xs).H All w:=⟨h.1,h.2.1,h.2.2.all⟩
theorem own_slR {et:TypeId} {A:Option Addr} {c:Nat} {rep:Rep α} {xs:List α} {Z:Nat→Prop} {w:World} (h:(ownR et A c rep xs).H Z w):(slR A c rep xs).H All w:=⟨h.1,h.2.1,Own.sl h |>.all⟩
end
def Zo (Z0 S:Nat→Prop) (w0:World) (L:List Rs):Nat→Prop:=λb=>(Z0 b∨S b∨w0.heap.size≤b)∧∀ (i:Nat) r,L[i]?=some r→¬r.F b
structure Hp (Z0 S:Nat→Prop) (w0 w:World) (L:List Rs):Prop where
 fr:Fr S w0 w
 hs:∀ (i:Nat) r,L[i]?=some r→r.H (Zo Z0 S w0 L) w
 ap:∀ (i j:Nat) a b,i≠j→L[i]?=some a→L[j]?=some b→∀ x,a.F x→¬b.F x
 nw:∀ (i:Nat) r,L[i]?=some r→∀ x,r.F x→S x∨w0.heap.size≤x
section
variable {Z0 S:Nat→Prop} {w0 w w':World} {L:List Rs}
theorem Hp.nil (Z0 S:Nat→Prop) (w:World):Hp Z0 S w w []:=⟨Fr.refl _ _,λi r h=>by simp at h,λi j a b _ h=>by simp at h,λi r h=>by simp at h⟩
theorem Hp.get (hm:Hp Z0 S w0 w L) (i:Nat) {r:Rs} (h:L[i]?=some r):r.H (Zo Z0 S w0 L) w:=hm.hs i r h
theorem Hp.lt (hm:Hp Z0 S w0 w L) {i:Nat} {r:Rs} (h:L[i]?=some r):∀ x,r.F x→x<w.heap.size:=r.lt (hm.hs i r h)
theorem Hp.size (hm:Hp Z0 S w0 w L):w0.heap.size≤w.heap.size:=hm.fr.size
theorem Hp.upd (hm:Hp Z0 S w0 w L) (i:Nat) {r:Rs} (r':Rs) (hi:L[i]?=some r) (hf:Fr r.F w w') (hF:∀ x,r'.F x→r.F x∨w.heap.size≤x)
 (hH:∀ Z':Nat→Prop,(∀ b,Zo Z0 S w0 L b→b<w.heap.size→Z' b)→(∀ b,(r.F b∨w.heap.size≤b)→¬r'.F b→Z' b)→r'.H Z' w'):Hp Z0 S w0 w' (L.set i r'):=by
 have hil:=lt_of_get hi
 have cases_:∀ {j:Nat} {a:Rs},(L.set i r')[j]?=some a→(j=i∧a=r')∨(j≠i∧L[j]?=some a):=by
  intro j a h;rw [List.getElem?_set] at h
  split at h
  ·rename_i hij;subst hij;exact .inl ⟨rfl,by first | exact (Option.some.inj h).symm | (rw [if_pos hil] at h;exact (Option.some.inj h).symm)⟩
  ·rename_i hij;exact .inr ⟨Ne.symm hij,h⟩
 have hset:(L.set i r')[i]?=some r':=by rw [List.getElem?_set_self hil]
 have hother:∀ {j:Nat} {a:Rs},j≠i→L[j]?=some a→(L.set i r')[j]?=some a:=λhj h=>by rw [List.getElem?_set_ne (Ne.symm hj)];exact h
 have hz1:∀ b,Zo Z0 S w0 L b→b<w.heap.size→Zo Z0 S w0 (L.set i r') b:=λb ⟨hb,hn⟩ hlt=>⟨hb,λj a hj ha=>by
  rcases cases_ hj with ⟨rfl,rfl⟩|⟨_,hj'⟩
  ·rcases hF b ha with h1 | h1
   ·exact hn _ r hi h1
   ·omega
  ·exact hn j a hj' ha⟩
 have hz2:∀ b,(r.F b∨w.heap.size≤b)→¬r'.F b→Zo Z0 S w0 (L.set i r') b:=λb hb hn=>by
  have hsz:=hm.size;refine ⟨?_,λj a hj ha=>?_⟩
  ·rcases hb with hb | hb
   ·exact .inr (hm.nw i r hi b hb)
   ·exact .inr (.inr (by omega))
  ·rcases cases_ hj with ⟨rfl,rfl⟩ | ⟨hji,hj'⟩
   ·exact hn ha
   ·rcases hb with hb | hb
    ·exact hm.ap i j r a (Ne.symm hji) hi hj' b hb ha
    ·have:=hm.lt hj' b ha;omega
 refine ⟨hm.fr.trans' hf λx hx=>hm.nw i r hi x hx,?_,?_,?_⟩
 ·intro j a hj
  rcases cases_ hj with ⟨rfl,rfl⟩|⟨hji,hj'⟩
  ·exact hH _ hz1 hz2
  ·exact a.keep (hm.hs j a hj') (λb hb hlt=>hf.keep b hlt (hm.ap j i a r hji hj' hi b hb)) (λb hb hlt=>hf.keep b hlt (hb.2 i r hi)) hz1
 ·intro j l a b hjl hj hl x hx hb
  rcases cases_ hj with ⟨rfl,rfl⟩|⟨hji,hj'⟩
  ·rcases cases_ hl with ⟨rfl,rfl⟩ | ⟨hli,hl'⟩
   ·exact hjl rfl
   ·rcases hF x hx with h1 | h1
    ·exact hm.ap _ l r b (Ne.symm hli) hi hl' x h1 hb
    ·have:=hm.lt hl' x hb;omega
  ·rcases cases_ hl with ⟨rfl,rfl⟩ | ⟨hli,hl'⟩
   ·rcases hF x hb with h1 | h1
    ·exact hm.ap j _ a r hji hj' hi x hx h1
    ·have:=hm.lt hj' x hx;omega
   ·exact hm.ap j l a b hjl hj' hl' x hx hb
 ·intro j a hj x hx
  have hsz:=hm.size
  rcases cases_ hj with ⟨rfl,rfl⟩|⟨hji,hj'⟩
  ·rcases hF x hx with h1 | h1
   ·exact hm.nw _ r hi x h1
   ·exact .inr (by omega)
  ·exact hm.nw j a hj' x hx
theorem Hp.ext (hm:Hp Z0 S w0 w L) (hE:Ext w w'):Hp Z0 S w0 w' L:=
 ⟨hm.fr.trans' hE λ_ h=>h.elim,λi r hi=>r.keep (hm.hs i r hi) (λb _ hlt=>hE.keep b hlt (λh=>h)) (λb _ hlt=>hE.keep b hlt (λh=>h)) (λb hb _=>hb),hm.ap,hm.nw⟩
theorem Hp.call {Z1:Nat→Prop} {L':List Rs} (hm:Hp Z0 S w0 w L) (h':Hp Z1 No w w' L') (hZ:∀ b,Z1 b→b<w.heap.size→(∀ (i:Nat) r,L'[i]?=some r→r.Flat)∨Zo Z0 S w0 L b):Hp Z0 S w0 w' (L++L'):=by
 have hE:Ext w w':=h'.fr;have hm':=hm.ext hE;have hsz:=hm.size
 have cases_:∀ {j:Nat} {a:Rs},(L++L')[j]?=some a→(L[j]?=some a)∨(L.length≤j∧L'[j-L.length]?=some a):=by
  intro j a h;rw [List.getElem?_append] at h
  split at h
  ·exact .inl h
  ·exact .inr ⟨by omega,h⟩
 have hnew:∀ {j:Nat} {a:Rs},L'[j]?=some a→∀ x,a.F x→w.heap.size≤x:=λhj x hx=>(h'.nw _ _ hj x hx).elim (λh=>h.elim) id
 have hz1:∀ b,Zo Z0 S w0 L b→b<w.heap.size→Zo Z0 S w0 (L++L') b:=λb ⟨h1,h2⟩ hlt=>⟨h1,λj a hj ha=>by
  rcases cases_ hj with hj|⟨_,hj⟩
  ·exact h2 j a hj ha
  ·have:=hnew hj b ha;omega⟩
 refine ⟨hm'.fr,?_,?_,?_⟩
 ·intro j a hj
  rcases cases_ hj with hj|⟨_,hj⟩
  ·exact a.keep (hm.hs j a hj) (λb _ hlt=>hE.keep b hlt (λh=>h)) (λb _ hlt=>hE.keep b hlt (λh=>h)) hz1
  ·by_cases hfl:∀ (i:Nat) r,L'[i]?=some r→r.Flat
   ·exact hfl _ a hj _ _ _ (h'.hs _ a hj)
   ·refine a.keep (h'.hs _ a hj) (λ_ _ _=>rfl) (λ_ _ _=>rfl) λb hb hlt=>?_
    by_cases hlt2:b<w.heap.size
    ·rcases hb.1 with h1 | h1 | h1
     ·exact hz1 b ((hZ b h1 hlt2).resolve_left hfl) hlt2
     ·exact h1.elim
     ·omega
    ·refine ⟨.inr (.inr (by omega)),λi c hi hc=>?_⟩
     rcases cases_ hi with hi|⟨_,hi⟩
     ·have:=hm.lt hi b hc;omega
     ·exact hb.2 _ c hi hc
 ·intro i j a b hij hi hj x hx hb
  rcases cases_ hi with hi'|⟨hi1,hi'⟩
  ·rcases cases_ hj with hj' | ⟨hj1,hj'⟩
   ·exact hm.ap i j a b hij hi' hj' x hx hb
   ·have:=hm.lt hi' x hx;have:=hnew hj' x hb;omega
  ·rcases cases_ hj with hj' | ⟨hj1,hj'⟩
   ·have:=hm.lt hj' x hb;have:=hnew hi' x hx;omega
   ·exact h'.ap _ _ a b (by omega) hi' hj' x hx hb
 ·intro j a hj x hx
  rcases cases_ hj with hj|⟨_,hj⟩
  ·exact hm.nw j a hj x hx
  ·exact .inr (by have:=hnew hj x hx;omega)
theorem Hp.callZ {L':List Rs} (hm:Hp Z0 S w0 w L) (h':Hp (Zo Z0 S w0 L) No w w' L'):Hp Z0 S w0 w' (L++L'):=hm.call h' λ_ hb _=>.inr hb
theorem Hp.callF {Z1:Nat→Prop} {L':List Rs} (hfl:∀ (i:Nat) r,L'[i]?=some r→r.Flat) (hm:Hp Z0 S w0 w L) (h':Hp Z1 No w w' L'):Hp Z0 S w0 w' (L++L'):=hm.call h' λ_ _ _=>.inl hfl
theorem Hp.call0 {Z1:Nat→Prop} (hm:Hp Z0 S w0 w L) (h':Hp Z1 No w w' []):Hp Z0 S w0 w' L:=hm.ext h'.fr
theorem Hp.add (hm:Hp Z0 S w0 w L) (r:Rs) (hE:Ext w w') (hF:∀ x,r.F x→w.heap.size≤x) (hH:∀ Z:Nat→Prop,(∀ b,Zo Z0 S w0 L b→b<w.heap.size→Z b)→r.H Z w'):Hp Z0 S w0 w' (L++[r]):=by
 have hsz:=hm.size
 have h':Hp (Zo Z0 S w0 L) No w w' [r]:=by
  refine ⟨hE,?_,?_,?_⟩
  ·intro i a hi
   cases i with
   | zero=>
    cases hi
    refine hH _ λb hb hlt=>⟨.inl hb,λj c hj hc=>?_⟩
    cases j with
    | zero=>cases hj;have:=hF b hc;omega
    | succ j=>simp at hj
   | succ i=>simp at hi
  ·intro i j a b hij hi hj
   cases i with
   | zero=>cases j with
    | zero=>exact absurd rfl hij
    | succ j=>simp at hj
   | succ i=>simp at hi
  ·intro i a hi x hx
   cases i with
   | zero=>cases hi;exact .inr (hF x hx)
   | succ i=>simp at hi
 exact hm.callZ h'
theorem Hp.addBox (hm:Hp Z0 S w0 w L) {b:Nat} {t:TypeId} {cs:List Value} (hb:b=w.heap.size) (hE:Ext w w') (h:Blk w' b t cs):Hp Z0 S w0 w' (L++[boxR b t cs]):=
 hm.add _ hE (λx hx=>by cases hx;omega) λ_ _=>h
theorem Hp.know (hm:Hp Z0 S w0 w L) (r:Rs) (hF:∀ x,¬r.F x) (hH:r.H (Zo Z0 S w0 L) w):Hp Z0 S w0 w (L++[r]):=
 hm.add r (Ext.refl w) (λx hx=>(hF x hx).elim) λZ hZ=>r.keep hH (λ_ _ _=>rfl) (λ_ _ _=>rfl) hZ
theorem Hp.knowSl {α:Type} {A:Option Addr} {c:Nat} {rep:Rep α} {xs:List α} (hm:Hp Z0 S w0 w L) (h1:xs.length≤c) (h2:c≤maxLen) (h:Sl (Zo Z0 S w0 L) w A rep xs):Hp Z0 S w0 w (L++[slR A c rep xs]):=hm.know _ (λ_ h=>h) ⟨h1,h2,h⟩
theorem Hp.knowRd {b o:Nat} {vs:List Value} (hm:Hp Z0 S w0 w L) (h1:Zo Z0 S w0 L b) (h:Rd w b o vs):Hp Z0 S w0 w (L++[rdR b o vs]):=hm.know _ (λ_ h=>h) ⟨λ_=>h1,h⟩
theorem zo0 {b:Nat} {L:List Rs} (hL:∀ (i:Nat) r,L[i]?=some r→∀ x,¬r.F x) (h:Z0 b):Zo Z0 S w0 L b:=⟨.inl h,λi r hi=>hL i r hi b⟩
def Calm (L:List Rs):Prop:=∀ (i:Nat) r,L[i]?=some r→∀ x,¬r.F x
theorem Calm.nil:Calm []:=λi r h=>by simp at h
theorem Calm.snoc {r:Rs} (h:Calm L) (hr:∀ x,¬r.F x):Calm (L++[r]):=λi a hi=>by
 rw [List.getElem?_append] at hi
 split at hi
 ·exact h i a hi
 ·have:i-L.length=0:=by
   rcases Nat.eq_zero_or_pos (i-L.length) with hh|hh
   ·exact hh
   ·rw [List.getElem?_eq_none (by simp;omega)] at hi;cases hi
  rw [this] at hi;cases hi;exact hr
theorem Hp.in0 {r:Rs} (hc:Calm L) (hm:Hp Z0 S w0 w L) (hH:r.H Z0 w):r.H (Zo Z0 S w0 L) w:=r.keep hH (λ_ _ _=>rfl) (λ_ _ _=>rfl) λ_ hb _=>zo0 hc hb
def pickL (L:List Rs):List Nat→List Rs
 | []=>[]
 | i::r=>match L[i]? with
  | some x=>x::pickL L r
  | none=>pickL L r
theorem pickL_get:∀ (is:List Nat) (k:Nat),is.all (λi=>Nat.blt i L.length)=true→(pickL L is)[k]?=is[k]?.bind λi=>L[i]?
 | [],k,_=>by simp [pickL]
 | i::r,k,h=>by
  simp only [List.all_cons,Bool.and_eq_true] at h
  have hlt:i<L.length:=by simpa [Nat.blt_eq] using h.1
  have hx:L[i]?=some L[i]:=List.getElem?_eq_getElem hlt
  cases k with
  | zero=>simp [pickL,hx]
  | succ k=>
   have:=pickL_get r k h.2;simp only [pickL,hx,List.getElem?_cons_succ,this]
theorem Hp.pick (hm:Hp Z0 S w0 w L) (is:List Nat) (h:is.all (λi=>Nat.blt i L.length)=true) (hnd:is.Nodup):Hp Z0 S w0 w (pickL L is):=by
 have hz:∀ {k:Nat} {r:Rs},(pickL L is)[k]?=some r→∃ i,is[k]?=some i∧L[i]?=some r:=λhk=>by
  rw [pickL_get is _ h] at hk;exact bindE hk
 refine ⟨hm.fr,?_,?_,?_⟩
 ·intro k r hk
  obtain ⟨i,_,hi⟩:=hz hk
  exact r.keep (hm.hs i r hi) (λ_ _ _=>rfl) (λ_ _ _=>rfl) λb hb _=>⟨hb.1,λj a hj ha=>let ⟨i',_,hi'⟩:=hz hj;hb.2 i' a hi' ha⟩
 ·intro j k a b hjk hj hk
  obtain ⟨i,h1,hi⟩:=hz hj;obtain ⟨i',h2,hi'⟩:=hz hk;refine hm.ap i i' a b (λhii=>hjk ?_) hi hi';subst hii;have hjl:=lt_of_get h1;exact (List.getElem?_inj hjl hnd).1 (h1.trans h2.symm)
 ·intro k r hk
  obtain ⟨i,_,hi⟩:=hz hk;exact hm.nw i r hi
theorem Hp.freeze {α:Type} {et:TypeId} {A:Option Addr} {c:Nat} {rep:Rep α} {xs:List α} (hm:Hp Z0 S w0 w L) (i:Nat) (hi:L[i]?=some (ownR et A c rep xs)):Hp Z0 S w0 w (L.set i (slR A c rep xs)):=by
 have h0:=hm.get i hi
 refine hm.upd i _ hi (Fr.refl _ _) (λx hx=>hx.elim) λZ' h1 h2=>⟨h0.1,h0.2.1,?_⟩
 have h3:=(Own.sl h0).bd
 refine h3.mono λb hb=>?_
 rcases hb.1 with h4|h4
 ·exact h1 b h4 hb.2
 ·exact h2 b (.inl h4) λh=>h
end
end Go.Wk
set_option linter.unusedVariables false
set_option linter.unusedSimpArgs false
namespace Go.Wk
open Go Go.RowKit
variable {K:Act→World→Prop}
def intR (q:IntKind):Rep Int:=Rep.flat 1 (λx=>[.int q x]) (λ_=>True) (λ_=>rfl) (λ_=>by simp [Value.oneCell']) Nat.one_pos
def boolR:Rep Bool:=Rep.flat 1 (λx=>[.bool x]) (λ_=>True) (λ_=>rfl) (λ_=>by simp [Value.oneCell']) Nat.one_pos
def textR:Rep (List UInt8):=Rep.flat 1 (λl=>[Str l]) (λ_=>True) (λ_=>rfl) (λ_=>by simp [Value.oneCell']) Nat.one_pos
def w64R:Rep UInt64:=Rep.flat 1 (λc=>[.int .u64 c.toNat]) (λ_=>True) (λ_=>rfl) (λ_=>by simp [Value.oneCell']) Nat.one_pos
theorem int_flat (q:IntKind):(intR q).Flat:=Rep.flat_flat _ _ _ _ _ _
theorem text_flat:textR.Flat:=Rep.flat_flat _ _ _ _ _ _
theorem w64_flat:w64R.Flat:=Rep.flat_flat _ _ _ _ _ _
theorem two_flat {α β:Type} {r:Rep α} {s:Rep β} (hr:r.Flat) (hs:s.Flat):(Rep.two r s).Flat:=λD D' w w' _ x ⟨us,ts,h,h1,h2⟩=>⟨us,ts,h,hr D D' w w' us x.1 h1,hs D D' w w' ts x.2 h2⟩
theorem map_flat {α β:Type} {r:Rep α} (g:β→α) (hr:r.Flat):(Rep.map g r).Flat:=λD D' w w' vs x h=>hr D D' w w' vs (g x) h
def toU8 (z:Int):UInt8:=UInt8.ofNat (z%256).toNat
def toU64 (z:Int):UInt64:=UInt64.ofNat (z%18446744073709551616).toNat
theorem wrap_u8 (z:Int):IntKind.u8.wrap z=((toU8 z).toNat:Int):=by
 simp [toU8,IntKind.wrap,IntKind.signed,IntKind.bits,UInt8.toNat_ofNat'];omega
theorem wrap_u64 (z:Int):IntKind.u64.wrap z=((toU64 z).toNat:Int):=by
 simp [toU64,IntKind.wrap,IntKind.signed,IntKind.bits,UInt64.toNat_ofNat'];omega
theorem toU64_add (a b:UInt64):toU64 ((a.toNat:Int)+(b.toNat:Int))=a+b:=by
 apply UInt64.toNat_inj.1;rw [UInt64.toNat_add];simp only [toU64,UInt64.toNat_ofNat'];omega
theorem toU64_sub (a b:UInt64):toU64 ((a.toNat:Int)-(b.toNat:Int))=a-b:=by
 apply UInt64.toNat_inj.1;rw [UInt64.toNat_sub];have:=a.toNat_lt;have:=b.toNat_lt;simp only [toU64,UInt64.toNat_ofNat'];omega
def quoZ (a b:Int):Option Int:=if b=0 then none else some (W64 (a.tdiv b))
section
variable {P:Program} {f:FuncId} {n:Nat} {R:Ending→World→Prop} {k:List Item} {e:Env} {w:World}
variable {ops:Array Oper} {i:Nat} {rest:List Nat} {d:Nat} {dst:Option Nat} {ty:TypeId} {pos:String} {af:Array Edge} {g:Option (Nat×Bool)}
theorem V.ari64 {op:BinOp} {x y:Operand} {a b c:UInt64} {t u:TypeId} (hx:ev e x=some (.int .u64 a.toNat)) (hy:ev e y=some (.int .u64 b.toNat)) (z:Int) (hop:binOp op t (.int .u64 a.toNat) (.int .u64 b.toNat)=pure (.int .u64 (IntKind.u64.wrap z))) (hc:toU64 z=c) :
 OpV P n e w ⟨dst,.binOp op t x y u,ty,pos,af,g⟩ (.int .u64 (c.toNat:Nat)) w:=by
 rw [wrap_u64,hc] at hop;exact V.op2 hx hy hop
theorem V.cv8 {q:IntKind} {x:Operand} {a:Int} {s t:TypeId} {ds:TypeDesc} (hs:P.underlying s=some ds) (ht:P.underlying t=some (.int .u8)) (hx:ev e x=some (.int q a)):OpV P n e w ⟨dst,.convert s t x,ty,pos,af,g⟩ (.int .u8 ((toU8 a).toNat:Nat)) w:=by
 rw [← wrap_u8];exact V.cvW hs ht hx
theorem V.cv64 {q:IntKind} {x:Operand} {a:Int} {s t:TypeId} {ds:TypeDesc} (hs:P.underlying s=some ds) (ht:P.underlying t=some (.int .u64)) (hx:ev e x=some (.int q a)):OpV P n e w ⟨dst,.convert s t x,ty,pos,af,g⟩ (.int .u64 ((toU64 a).toNat:Nat)) w:=by
 rw [← wrap_u64];exact V.cvW hs ht hx
theorem V.cv8i {x:Operand} {a:UInt8} {s t:TypeId} {ds:TypeDesc} (hs:P.underlying s=some ds) (ht:P.underlying t=some (.int .i64)) (hx:ev e x=some (.int .u8 a.toNat)):OpV P n e w ⟨dst,.convert s t x,ty,pos,af,g⟩ (.int .i64 (a.toNat:Nat)) w:=
 V.cvI hs ht hx (wc8 a)
theorem V.quoZ {x y:Operand} {a b c:Int} {t u:TypeId} (hx:ev e x=some (.int .i64 a)) (hy:ev e y=some (.int .i64 b)) (h:quoZ a b=some c):OpV P n e w ⟨dst,.binOp .quo t x y u,ty,pos,af,g⟩ (.int .i64 c) w:=λq hf=>by
 unfold Go.Wk.quoZ at h
 split at h
 ·cases h
 ·rename_i hb
  cases h
  simp [execOp,ev_eval hf hx,ev_eval hf hy,eqGuard_quo,binOp_quo,Op.intDiv,hb]
theorem V.idxSZ {x y:Operand} {a:List UInt8} {q:IntKind} {j:Int} {c:UInt8} {t:TypeId} (ht:P.underlying t=some .string) (hx:ev e x=some (Str a)) (hy:ev e y=some (.int q j)) (h:idx a j=some c) :
 OpV P n e w ⟨dst,.index t x y,ty,pos,af,g⟩ (.int .u8 c.toNat) w:=by
 obtain ⟨m,h1,h2,_⟩:=idxE h;exact V.idxS m ht hx hy h1 c h2
theorem V.catZ {x y:Operand} {a b c:List UInt8} {t u:TypeId} (hx:ev e x=some (Str a)) (hy:ev e y=some (Str b)) (h:Go.Wk.catS a b=some c):OpV P n e w ⟨dst,.binOp .add t x y u,ty,pos,af,g⟩ (Str c) w:=by
 obtain ⟨h1,rfl⟩:=catE h;exact V.catS hx hy h1
abbrev lo? (e:Env) (o:Option Operand) (a:Int):Prop:=match o with | some y=>ev e y=some (.int .i64 a) | none=>a=0
abbrev hi? (e:Env) (o:Option Operand) (a:Int) (m:Nat):Prop:=match o with | some y=>ev e y=some (.int .i64 a) | none=>a=m
theorem V.cutSZ {x:Operand} {lo hi:Option Operand} {a c:List UInt8} {p q:Int} {t:TypeId} (ht:P.underlying t=some .string) (hx:ev e x=some (Str a)) (h:cutL a p q=some c) (hlo:lo? e lo p) (hhi:hi? e hi q a.length) :
 OpV P n e w ⟨dst,.slice t x lo hi none,ty,pos,af,g⟩ (Str c) w:=by
 obtain ⟨p',q',rfl,rfl,h1,h2,rfl⟩:=cutE h;refine V.cutS p' q' ht hx ?_ ?_ h1 h2
 ·cases lo with
  | none=>simpa using hlo
  | some y=>exact ⟨_,hlo,rfl⟩
 ·cases hi with
  | none=>have hh:(q':Int)=_:=hhi;exact Int.ofNat.inj hh
  | some y=>exact ⟨_,hhi,rfl⟩
variable {Z0 S:Nat→Prop} {w0:World} {L:List Rs} {α:Type} {rep:Rep α}
theorem Own.bd {B c:Nat} {D:Nat→Prop} {et:TypeId} {A:Option Addr} {xs:List α} (h:Own B D w et A c rep xs):Own B (λb=>D b∧b<w.heap.size) w et A c rep xs:=by
 refine ⟨h.1,h.2.1,?_⟩
 rcases h.2.2 with h0|⟨g,cs,vss,rfl,h1,h2,h3,h4,h5,h6⟩
 ·exact .inl h0
 ·exact .inr ⟨g,cs,vss,rfl,h1,h2,h3,h4,λk vs x hv hx=>rep.bd (h5 k vs x hv hx),h6⟩
theorem Own.src {B c:Nat} {D:Nat→Prop} {et:TypeId} {A:Option Addr} {xs:List α} (h:Own B D w et A c rep xs):Src D w A rep xs:=λhne=>by
 rcases h.2.2 with ⟨rfl,hc⟩|⟨g,cs,vss,rfl,h1,h2,h3,h4,h5,h6⟩
 ·exact (hne (List.eq_nil_of_length_eq_zero (by have:=h.1;omega))).elim
 ·refine ⟨g,0,vss,rfl,h4,h5,λj u hj=>?_⟩
  rw [← h6,List.getElem?_take] at hj
  split at hj
  ·rw [Nat.zero_add,h2.cell];exact hj
  ·cases hj
theorem Src.bd {D:Nat→Prop} {A:Option Addr} {ys:List α} (h:Src D w A rep ys):Src (λb=>D b∧b<w.heap.size) w A rep ys:=λhne=>by
 obtain ⟨b,o,vss,h1,h2,h3,h4⟩:=h hne;exact ⟨b,o,vss,h1,h2,λk vs x hv hx=>rep.bd (h3 k vs x hv hx),h4⟩
theorem Hp.addNil (hm:Hp Z0 S w0 w L) (et:TypeId) (rep:Rep α):Hp Z0 S w0 w (L++[ownR et none 0 rep []]):=hm.know _ (λx hx=>by cases hx) (Own.nil _ _ _ _ _)
theorem Hp.st {b:Nat} {t:TypeId} {cs cs':List Value} {w':World} (hm:Hp Z0 S w0 w L) (i:Nat) (hi:L[i]?=some (boxR b t cs)) (hf:Fr (λx=>x=b) w w') (h:Blk w' b t cs'):Hp Z0 S w0 w' (L.set i (boxR b t cs')):=
 hm.upd i _ hi hf (λx hx=>.inl hx) λ_ _ _=>h
theorem mul_by {a b:Nat} (h:a≤1073741824) (hb:Nat.ble b 131072=true):a*b≤140737488355328:=Nat.le_trans (Nat.mul_le_mul h (Nat.le_of_ble_eq_true hb)) (by decide)
theorem Rn.pushH {by_:Nat} {t el:TypeId} {x y:Operand} {A:Option Addr} {c:Nat} {xs ys:List α} {i2 d2:Nat} {v:Value} {vs:List Value} {ty2:TypeId} {pos2:String} {af2:Array Edge} {z:α}
 (hm:Hp Z0 S w0 w L) (m:Nat) (hi:L[m]?=some (ownR el A c rep xs)) (hys:appL xs [z]=some ys)
 (ho:ops[i]?=some ⟨some d,.buildSlice t 1 #[(0,x)],ty,pos,af,none⟩) (ho2:ops[i2]?=some ⟨some d2,.call { callee:=.builtin .append,args:=#[y,.tmp d],argTypes:=#[t,t] },ty2,pos2,af2,none⟩)
 (hn:Nat.blt d n=true) (hn2:Nat.blt d2 n=true)
 (ht:P.underlying t=some (.slice el)) (hel:ElOk P el rep.sz by_) (hby:Nat.ble by_ 131072=true) (hsz:Nat.ble rep.sz 16777216=true) (hx:ev e x=some v) (hv:v.cells=vs.toArray) (hy:∀ u,ev ((d,u)::e) y=some (.slice A xs.length c))
 (hrel:rep.rel (Zo Z0 S w0 L) w vs z)
 (h:∀ A2 c2 w' u,Hp Z0 S w0 w' (L.set m (ownR el A2 c2 rep ys))→Rn P f n R (.inRegion ops rest::k) ((d2,.slice A2 ys.length c2)::(d,u)::e) w'):Rn P f n R (.inRegion ops (i::i2::rest)::k) e w:=by
 obtain ⟨hle,rfl⟩:=appE hys;have h0:=hm.get m hi;have hO:Own 0 (λb=>Zo Z0 S w0 L b∧b<w.heap.size) w el A c rep xs:=Own.bd h0;refine Rn.push z ho ho2 hn hn2 ht hel hx hv hy hO (rep.bd hrel) (Nat.zero_le _) (by simp at hle;omega) (mul_by (by simpa using hle) hby) (Nat.le_of_ble_eq_true hsz) (λb hb hob=>hb.1.2 m _ hi hob) ?_;intro A2 c2 w' u hO2 hF hq;have:=h A2 c2 w' u (hm.upd m _ hi hF (λx hx=>hq x hx) λZ' h1 _=>hO2.mono λb hb=>h1 b hb.1 hb.2);rw [List.length_append] at this;exact this
theorem Rn.appH {by_:Nat} {t el:TypeId} {x y:Operand} {A A':Option Addr} {c c' l':Nat} {xs ys zs:List α}
 (hm:Hp Z0 S w0 w L) (m:Nat) (hi:L[m]?=some (ownR el A c rep xs)) (hzs:appL xs ys=some zs)
 (ho:ops[i]?=some ⟨some d,.call { callee:=.builtin .append,args:=#[x,y],argTypes:=#[t,t] },ty,pos,af,g⟩) (hg:gok e ops g=true) (hn:Nat.blt d n=true)
 (ht:P.underlying t=some (.slice el)) (hel:ElOk P el rep.sz by_) (hby:Nat.ble by_ 131072=true) (hx:ev e x=some (.slice A xs.length c)) (hy:ev e y=some (.slice A' l' c')) (hl:ys.length=l')
 (hS:Src (Zo Z0 S w0 L) w A' rep ys)
 (h:∀ A2 c2 w',Hp Z0 S w0 w' (L.set m (ownR el A2 c2 rep zs))→Rn P f n R (.inRegion ops rest::k) ((d,.slice A2 zs.length c2)::e) w'):Rn P f n R (.inRegion ops (i::rest)::k) e w:=by
 obtain ⟨hle,rfl⟩:=appE hzs;subst hl;have h0:=hm.get m hi;have hO:Own 0 (λb=>Zo Z0 S w0 L b∧b<w.heap.size) w el A c rep xs:=Own.bd h0;obtain ⟨A2,c2,w',hr,hF,hob,hown⟩:=app_run (P:=P) (c':=c') ht hel hO hS.bd rfl (Nat.zero_le _) (by omega) (mul_by hle hby) ty;have hO2:=hown (λb hb hob=>hb.1.2 m _ hi hob) (λb hb hob=>hb.1.2 m _ hi hob);refine Rn.opV (v:=.slice A2 (xs.length+ys.length) c2) (w':=w') ho hg rfl hn (λa hf=>by simp [execOp,resolve,invoke,builtin,ev_eval hf hx,ev_eval hf hy,hr]) ?_;have:=h A2 c2 w' (hm.upd m _ hi hF (λx hx=>(hob x hx).imp id λhh=>by omega) λZ' h1 _=>hO2.mono λb hb=>by rcases hb with hb | hb<;>exact h1 b hb.1 hb.2);rw [List.length_append] at this;exact this
theorem Hp.src {A:Option Addr} {c:Nat} {xs:List α} (hm:Hp Z0 S w0 w L) (i:Nat) (hi:L[i]?=some (slR A c rep xs)):Src (Zo Z0 S w0 L) w A rep xs:=reads_of_sl (hm.get i hi).2.2
theorem Hp.srcO {A:Option Addr} {c:Nat} {et:TypeId} {xs:List α} (hm:Hp Z0 S w0 w L) (i:Nat) (hi:L[i]?=some (ownR et A c rep xs)):Src (Zo Z0 S w0 L) w A rep xs:=Own.src (hm.get i hi)
theorem Rn.ixH {t el:TypeId} {x y:Operand} {A:Option Addr} {c m:Nat} {q:IntKind} {j:Int} {xs:List α} {s:Nat} {z:α} (hm:Hp Z0 S w0 w L) (m':Nat) (hi:L[m']?=some (slR A c rep xs)) (hz:idx xs j=some z) (ho:ops[i]?=some ⟨some d,.indexAddr t x y,ty,pos,af,g⟩) (hg:gok e ops g=true) (hn:Nat.blt d n=true)
 (ht:P.underlying t=some (.slice el)) (hs:∀ w,(sizeOf el).run P w=.ok s w) (hsz:rep.sz=s) (hx:ev e x=some (.slice A m c)) (hmm:xs.length=m) (hy:ev e y=some (.int q j))
 (h:∀ b o vs,rep.rel (Zo Z0 S w0 L) w vs z→Hp Z0 S w0 w (L++[rdR b o vs])→Rn P f n R (.inRegion ops rest::k) ((d,.pointer (some ⟨b,o,none⟩))::e) w):Rn P f n R (.inRegion ops (i::rest)::k) e w:=by
 obtain ⟨kk,h1,h2,h3⟩:=idxE hz
 exact Rn.ix kk z ho hg hn ht hs hx hy (hm.get m' hi).2.2 hsz h2 h1 (by omega) λb o vs hR hrel hD=>h b o vs hrel (hm.knowRd hD hR)
theorem Rn.cutH {t el:TypeId} {x:Operand} {lo hi:Option Operand} {A:Option Addr} {c m:Nat} {p q:Int} {xs zs:List α} {s:Nat} (hm:Hp Z0 S w0 w L) (m':Nat) (hi':L[m']?=some (slR A c rep xs)) (hz:cutL xs p q=some zs) (ho:ops[i]?=some ⟨some d,.slice t x lo hi none,ty,pos,af,g⟩) (hg:gok e ops g=true) (hn:Nat.blt d n=true)
 (ht:P.underlying t=some (.slice el)) (hs:∀ w,(sizeOf el).run P w=.ok s w) (hsz:rep.sz=s) (hx:ev e x=some (.slice A m c)) (hmm:xs.length=m) (hlo:lo? e lo p) (hhi:hi? e hi q m)
 (h:∀ A' c',Hp Z0 S w0 w (L++[slR A' c' rep zs])→Rn P f n R (.inRegion ops rest::k) ((d,.slice A' zs.length c')::e) w):Rn P f n R (.inRegion ops (i::rest)::k) e w:=by
 obtain ⟨p',q',rfl,rfl,h1,h2,rfl⟩:=cutE hz;obtain ⟨g1,g2,g3⟩:=hm.get m' hi'
 refine Rn.cutSl p' q' ho hg hn ht hs hx g3 hmm (by omega) hsz ?_ ?_ h1 (by omega) λA' hS hl=>h A' _ (hm.knowSl hl (by omega) hS)
 ·cases lo with
  | none=>simpa using hlo
  | some y=>exact ⟨_,hlo,rfl⟩
 ·cases hi with
  | none=>have hh:(q':Int)=_:=hhi;exact Int.ofNat.inj hh
  | some y=>exact ⟨_,hhi,rfl⟩
theorem Rn.drawP {id:Nat} {ops:Array Oper} (hm':P.follows .mixedOrders=true) (hm:Hp Z0 S w0 w L)
 (h:∀ w1,Hp Z0 S w0 w1 L→RH P f n R k ops (λw'=>w'=w1) ops.size (Array.replicate ops.size false) e w1):Rn P f n R (.code (.region id ops true)::k) e w:=
 Rn.draw (λw'=>w'=w.drew) hm' rfl (h w.drew (hm.ext (Ext.drew w)))
theorem Rn.drawH {id:Nat} {ops:Array Oper} (hm':P.follows .mixedOrders=true) (hm:Hp Z0 S w0 w L)
 (h:∀ w1,Hp Z0 S w0 w1 L→RH P f n R k ops (λw'=>Ext w1 w') ops.size (Array.replicate ops.size false) e w1):Rn P f n R (.code (.region id ops true)::k) e w:=
 Rn.draw (λw'=>Ext w.drew w') hm' (Ext.refl _) (h w.drew (hm.ext (Ext.drew w)))
end
section
variable {P:Program} {f:FuncId} {n:Nat} {R:Ending→World→Prop} {k:List Item} {e:Env} {w w1:World} {ops:Array Oper} {fuel:Nat} {listed:Array Bool} {d:Nat} {o:Oper} {S:World→Prop}
theorem RH.takeP {v:Value} (i:Nat) (hk:okTake ops listed i=true) (ho:ops[i]?=some o) (hg:gok e ops o.guard=true) (hd:o.dst=some d) (hn:Nat.blt d n=true) (hv:OpV P n e w1 o v w1)
 (h:RG P n K ops (λw'=>w'=w1) fuel (listed.setIfInBounds i true) ((d,v)::e) w):RG P n K ops (λw'=>w'=w1) (fuel+1) listed e w:=
 RH.take i hk ho hg hd hn (λw' hw=>by subst hw;exact hv) h
theorem RH.doneP (hr:Region.ready .any ops listed=[]) (h:Rn P f n R k e w):RH P f n R k ops S fuel listed e w:=RH.done hr λ_=>h
end
section
variable {P:Program} {f:FuncId} {n:Nat} {R:Ending→World→Prop} {k:List Item} {e:Env} {w:World}
def RvIs (P:Program) (e:Env) (w:World) (r:ResultVar) (v:Value):Prop:=match r with
 | .tmp t=>lk e t=some v
 | .cell a t=>∃ b o s vs,lk e a=some (.pointer (some ⟨b,o,none⟩))∧(((∀ w,(isAgg t).run P w=.ok true w)∧(∀ w,(sizeOf t).run P w=.ok s w)∧Rd w b o vs∧vs.length=s∧v=.agg vs.toArray)∨((∀ w,(isAgg t).run P w=.ok false w)∧w.cell? ⟨b,o,none⟩=some v))
def rvS (tm:Array Value):ResultVar→Sem Value
 | .tmp t=>pure (tm.getD t undef)
 | .cell a t=>do loadVar t (← asAddr (tm.getD a undef))
theorem results_eq (fn:Func) (tm:Array Value):results fn tm=(do let vs ← fn.results.mapM (rvS tm);pure (if h:vs.size=1 then vs[0] else .tuple vs)):=by
 unfold results
 congr 2
theorem rv_run {r:ResultVar} {v:Value} (h:RvIs P e w r v) (tm:Array Value) (hf:Fits e n tm):(rvS tm r).run P w=.ok v w:=by
 cases r with
 | tmp t=>simp [rvS,getD_of_fits hf h]
 | cell a t=>
  obtain ⟨b,o,s,vs,hl,h⟩:=h
  rcases h with ⟨ha,hs,hR,hvs,rfl⟩|⟨ha,hc⟩
  ·have hc:∀ j v,vs[j]?=some v→w.cell? ((⟨b,o,none⟩:Addr).add j)=some v:=λj v hv=>by rw [Addr.add_none];exact hR j v hv
   have:=run_loadCells_list (P:=P) (w:=w) ⟨b,o,none⟩ vs hc;rw [hvs] at this;simp [rvS,getD_of_fits hf hl,asAddr,loadVar,ha,hs,this]
  ·simp [rvS,getD_of_fits hf hl,asAddr,loadVar,ha,hc]
theorem resG1 {fn:Func} {r1:ResultVar} {v1:Value} (hr:fn.results=#[r1]) (h1:RvIs P e w r1 v1) (tm:Array Value) (hf:Fits e n tm):(results fn tm).run P w=.ok v1 w:=by
 have g1:=rv_run h1 tm hf;rw [results_eq,hr];simp [g1]
theorem resG2 {fn:Func} {r1 r2:ResultVar} {v1 v2:Value} (hr:fn.results=#[r1,r2]) (h1:RvIs P e w r1 v1) (h2:RvIs P e w r2 v2) (tm:Array Value) (hf:Fits e n tm):(results fn tm).run P w=.ok (.tuple #[v1,v2]) w:=by
 have g1:=rv_run h1 tm hf;have g2:=rv_run h2 tm hf;rw [results_eq,hr];simp [g1,g2]
theorem resG3 {fn:Func} {r1 r2 r3:ResultVar} {v1 v2 v3:Value} (hr:fn.results=#[r1,r2,r3]) (h1:RvIs P e w r1 v1) (h2:RvIs P e w r2 v2) (h3:RvIs P e w r3 v3) (tm:Array Value) (hf:Fits e n tm):(results fn tm).run P w=.ok (.tuple #[v1,v2,v3]) w:=by
 have g1:=rv_run h1 tm hf;have g2:=rv_run h2 tm hf;have g3:=rv_run h3 tm hf;rw [results_eq,hr];simp [g1,g2,g3]
theorem resG4 {fn:Func} {r1 r2 r3 r4:ResultVar} {v1 v2 v3 v4:Value} (hr:fn.results=#[r1,r2,r3,r4]) (h1:RvIs P e w r1 v1) (h2:RvIs P e w r2 v2) (h3:RvIs P e w r3 v3) (h4:RvIs P e w r4 v4) (tm:Array Value) (hf:Fits e n tm):(results fn tm).run P w=.ok (.tuple #[v1,v2,v3,v4]) w:=by
 have g1:=rv_run h1 tm hf;have g2:=rv_run h2 tm hf;have g3:=rv_run h3 tm hf;have g4:=rv_run h4 tm hf;rw [results_eq,hr];simp [g1,g2,g3,g4]
theorem Rn.retG1 {fn:Func} {r1:ResultVar} {v1:Value} (hf:P.funcs[f]?=some fn) (hr:fn.results=#[r1]) (h1:RvIs P e w r1 v1) (h:R (.returned (v1)) w):Rn P f n R (.code .ret::k) e w:=Rn.retV hf (λtm hh=>resG1 hr h1 tm hh) h
theorem Rn.retG2 {fn:Func} {r1 r2:ResultVar} {v1 v2:Value} (hf:P.funcs[f]?=some fn) (hr:fn.results=#[r1,r2]) (h1:RvIs P e w r1 v1) (h2:RvIs P e w r2 v2) (h:R (.returned (.tuple #[v1,v2])) w):Rn P f n R (.code .ret::k) e w:=Rn.retV hf (λtm hh=>resG2 hr h1 h2 tm hh) h
theorem Rn.retG3 {fn:Func} {r1 r2 r3:ResultVar} {v1 v2 v3:Value} (hf:P.funcs[f]?=some fn) (hr:fn.results=#[r1,r2,r3]) (h1:RvIs P e w r1 v1) (h2:RvIs P e w r2 v2) (h3:RvIs P e w r3 v3) (h:R (.returned (.tuple #[v1,v2,v3])) w):Rn P f n R (.code .ret::k) e w:=Rn.retV hf (λtm hh=>resG3 hr h1 h2 h3 tm hh) h
theorem Rn.retG4 {fn:Func} {r1 r2 r3 r4:ResultVar} {v1 v2 v3 v4:Value} (hf:P.funcs[f]?=some fn) (hr:fn.results=#[r1,r2,r3,r4]) (h1:RvIs P e w r1 v1) (h2:RvIs P e w r2 v2) (h3:RvIs P e w r3 v3) (h4:RvIs P e w r4 v4) (h:R (.returned (.tuple #[v1,v2,v3,v4])) w):Rn P f n R (.code .ret::k) e w:=Rn.retV hf (λtm hh=>resG4 hr h1 h2 h3 h4 tm hh) h
theorem rvC {a:Nat} {t t':TypeId} {b s:Nat} {vs:List Value} (hl:lk e a=some (.pointer (some ⟨b,0,none⟩))) (ha:∀ w,(isAgg t).run P w=.ok true w) (hs:∀ w,(sizeOf t).run P w=.ok s w) (hB:Blk w b t' vs) (hv:vs.length=s):RvIs P e w (.cell a t) (.agg vs.toArray):=⟨b,0,s,vs,hl,.inl ⟨ha,hs,hB.rd,hv,rfl⟩⟩
theorem rvT {t:Nat} {v:Value} (hl:lk e t=some v):RvIs P e w (.tmp t) v:=hl
end
theorem Rd.pre {w:World} {b o:Nat} {vs:List Value} (h:Rd w b o vs) (m:Nat):Rd w b o (vs.take m):=λj v hv=>h j v (by rw [List.getElem?_take] at hv;split at hv;exact hv;cases hv)
theorem Rd.sub {w:World} {b o:Nat} {vs:List Value} (h:Rd w b o vs) (p m:Nat):Rd w b (o+p) ((vs.drop p).take m):=λj v hv=>by
 rw [List.getElem?_take] at hv
 split at hv
 ·rw [List.getElem?_drop] at hv;rw [Nat.add_assoc];exact h _ v hv
 ·cases hv
section
variable {Z0 S:Nat→Prop} {w0 w w':World} {L:List Rs} {α:Type} {rep:Rep α}
theorem Hp.fresh {b:Nat} (hm:Hp Z0 S w0 w L) (hb:w.heap.size≤b):Zo Z0 S w0 L b:=⟨.inr (.inr (by have:=hm.size;omega)),λi r hi hr=>by have:=hm.lt hi b hr;omega⟩
theorem Hp.at {A:Option Addr} {c:Nat} {xs:List α} {k:Nat} {z:α} (hm:Hp Z0 S w0 w L) (i:Nat) (hi:L[i]?=some (slR A c rep xs)) (hz:xs[k]?=some z):∃ b o vs,A=some ⟨b,o,none⟩∧Zo Z0 S w0 L b∧Rd w b (o+k*rep.sz) vs∧rep.rel (Zo Z0 S w0 L) w vs z:=(hm.get i hi).2.2.get hz
theorem Hp.addLit {et:TypeId} {b:Nat} {cs:List Value} {xs:List α} {vss:List (List Value)} (hm:Hp Z0 S w0 w L) (hb:b=w.heap.size) (hE:Ext w w') (hB:Blk w' b et cs) (hfl:vss.flatten=cs) (hl:vss.length=xs.length) (hm':Nat.ble xs.length maxLen=true)
 (hrel:∀ (Z:Nat→Prop) (w:World) (k:Nat) (vs:List Value) (x:α),vss[k]?=some vs→xs[k]?=some x→rep.rel Z w vs x):Hp Z0 S w0 w' (L++[ownR et (some ⟨b,0,none⟩) xs.length rep xs]):=
 hm.add _ hE (λx hx=>by have hxb:b=x:=(by simpa [ownR,ob] using hx);omega) λZ _=>by
  have hlen:∀ vs∈vss,vs.length=rep.sz:=lens_of hl (hrel All w);have hf:=length_flat rep.sz vss hlen;refine ⟨Nat.le_refl _,Nat.le_of_ble_eq_true hm',.inr ⟨b,cs,vss,rfl,Nat.zero_le _,hB,?_,hl,hrel Z w',?_⟩⟩
  ·rw [← hfl,hf,hl];exact Nat.le_refl _
  ·rw [← hfl,← hl,← hf,List.take_length]
theorem rels0:∀ (Z:Nat→Prop) (w:World) (k:Nat) (vs:List Value) (x:α),([]:List (List Value))[k]?=some vs→([]:List α)[k]?=some x→rep.rel Z w vs x:=λ_ _ k _ _ h=>by simp at h
theorem rels_cons {v:List Value} {x:α} {vss:List (List Value)} {xs:List α} (h:∀ Z w,rep.rel Z w v x) (hr:∀ (Z:Nat→Prop) (w:World) (k:Nat) (vs:List Value) (x:α),vss[k]?=some vs→xs[k]?=some x→rep.rel Z w vs x) :
 ∀ (Z:Nat→Prop) (w:World) (k:Nat) (vs:List Value) (y:α),(v::vss)[k]?=some vs→(x::xs)[k]?=some y→rep.rel Z w vs y
 | Z,w,0,vs,y,h1,h2=>by cases h1;cases h2;exact h Z w
 | Z,w,k+1,vs,y,h1,h2=>hr Z w k vs y h1 h2
end
section
variable {P:Program} {f:FuncId} {n:Nat} {R:Ending→World→Prop} {k:List Item} {e:Env} {w:World}
variable {ops:Array Oper} {i:Nat} {rest:List Nat} {d:Nat} {dst:Option Nat} {ty:TypeId} {pos:String} {af:Array Edge} {g:Option (Nat×Bool)}
variable {Z0 S:Nat→Prop} {w0:World} {L:List Rs}
theorem V.ixA' {t el:TypeId} {x y:Operand} {A:Option Addr} {b o m c:Nat} {q:IntKind} {j:Int} {s:Nat} (hA:A=some ⟨b,o,none⟩) (kk:Nat) (ht:P.underlying t=some (.slice el)) (hs:∀ w,(sizeOf el).run P w=.ok s w) (hx:ev e x=some (.slice A m c)) (hy:ev e y=some (.int q j)) (hj:j=(kk:Int)) (hm:kk<m) :
 OpV P n e w ⟨dst,.indexAddr t x y,ty,pos,af,g⟩ (.pointer (some ⟨b,o+kk*s,none⟩)) w:=by subst hA;exact V.ixA kk ht hs hx hy hj hm
theorem V.neqT {x y:Operand} {xs ys:Array Value} {p:Prop} [Decidable p] {t u:TypeId} (hm:P.eqGuardType P.depth t=false) (hx:ev e x=some (.agg xs)) (hy:ev e y=some (.agg ys)) (he:∀ w,(Op.equalIn 10000 t (.agg xs) (.agg ys)).run P w=.ok (decide p) w) :
 OpV P n e w ⟨dst,.binOp .neq t x y u,ty,pos,af,g⟩ (.bool (decide (¬p))) w:=λa hf=>by
 simp [execOp,ev_eval hf hx,ev_eval hf hy,run_eqGuard_agg w .neq t x y xs ys hm,run_neq_struct w t xs ys,he]
theorem Rn.s2bH {s t el:TypeId} {x:Operand} {l z:List UInt8} (hm:Hp Z0 S w0 w L) (hz:lenS l=some z) (ho:ops[i]?=some ⟨some d,.convert s t x,ty,pos,af,g⟩) (hg:gok e ops g=true) (hn:Nat.blt d n=true) (hs:P.underlying s=some .string) (ht:P.underlying t=some (.slice el)) (he:P.underlying el=some (.int .u8)) (hx:ev e x=some (Str l))
 (h:∀ A c w',Hp Z0 S w0 w' (L++[slR A c byteR z])→Rn P f n R (.inRegion ops rest::k) ((d,.slice A z.length c)::e) w'):Rn P f n R (.inRegion ops (i::rest)::k) e w:=by
 obtain ⟨hl,rfl⟩:=lenE hz
 refine Rn.s2b ho hg hn hs ht he hx (by simp only [maxLen];omega) λb c w' hb h1 h2 hE hlt hS=>?_
 exact h _ c w' ((hm.ext hE).knowSl h1 h2 (hS.mono λx hx=>by subst hx;exact hm.fresh (by omega)))
end
end Go.Wk
set_option linter.unusedVariables false
set_option linter.unusedSimpArgs false
namespace Go.Wk
open Go Go.RowKit
variable {K:Act→World→Prop}
def LS (L:List Rs):Nat→Prop:=λb=>∃ (i:Nat) (r:Rs),L[i]?=some r∧r.F b
def Lent (Z0:Nat→Prop) (w:World) (L:List Rs):Prop:=(∀ (i:Nat) r,L[i]?=some r→r.H (Zo Z0 (LS L) w L) w)∧∀ (i j:Nat) a b,i≠j→L[i]?=some a→L[j]?=some b→∀ x,a.F x→¬b.F x
section
variable {Z0 Z1 S:Nat→Prop} {w0 w w':World} {L K M L':List Rs}
theorem Lent.start (h:Lent Z0 w L):Hp Z0 (LS L) w w L:=⟨Fr.refl _ _,h.1,h.2,λi r hi x hx=>.inl ⟨i,r,hi,hx⟩⟩
theorem get_app {j:Nat} {a:Rs} (h:(K++L')[j]?=some a):K[j]?=some a∨(K.length≤j∧L'[j-K.length]?=some a):=by
 rw [List.getElem?_append] at h
 split at h
 ·exact .inl h
 ·exact .inr ⟨by omega,h⟩
theorem get_left {j:Nat} {a:Rs} (h:K[j]?=some a):(K++M)[j]?=some a:=by rw [List.getElem?_append_left (lt_of_get h)];exact h
theorem get_right {j:Nat} {a:Rs} (h:M[j]?=some a):(K++M)[K.length+j]?=some a:=by
 rw [List.getElem?_append_right (by omega)]
 have:K.length+j-K.length=j:=by omega
 rw [this];exact h
theorem Hp.lend (hm:Hp Z0 S w0 w (K++M)):Lent (Zo Z0 S w0 (K++M)) w M:=by
 refine ⟨λi r hi=>r.keep (hm.hs _ r (get_right hi)) (λ_ _ _=>rfl) (λ_ _ _=>rfl) λb hb _=>⟨.inl hb,λj a hj=>hb.2 _ a (get_right hj)⟩,λi j a b hij hi hj=>hm.ap _ _ a b (by omega) (get_right hi) (get_right hj)⟩
theorem Lent.flat (h:Lent Z0 w M) (hf:∀ (i:Nat) r,M[i]?=some r→r.Flat):Lent Z1 w M:=⟨λi r hi=>hf i r hi _ _ _ (h.1 i r hi),h.2⟩
theorem Hp.callA (hm:Hp Z0 S w0 w (K++M)) (h':Hp Z1 (LS M) w w' L') (hZ:(∀ (i:Nat) r,L'[i]?=some r→r.Flat)∨∀ b,Z1 b→Zo Z0 S w0 (K++M) b):Hp Z0 S w0 w' (K++L'):=by
 have hF:=h'.fr;have hsz:=hm.size
 have hM:∀ x,LS M x→S x∨w0.heap.size≤x:=λx ⟨i,r,hi,hx⟩=>hm.nw _ r (get_right hi) x hx
 have hMlt:∀ x,LS M x→x<w.heap.size:=λx ⟨i,r,hi,hx⟩=>hm.lt (get_right hi) x hx
 have hKM:∀ {j:Nat} {a:Rs},K[j]?=some a→∀ x,a.F x→¬LS M x:=fun {j a} hj x hx ⟨i,r,hi,hr⟩=>hm.ap j (K.length+i) a r (by have:=lt_of_get hj;omega) (get_left hj) (get_right hi) x hx hr
 have hnew:∀ {j:Nat} {a:Rs},L'[j]?=some a→∀ x,a.F x→LS M x∨w.heap.size≤x:=λhj x hx=>h'.nw _ _ hj x hx
 have hz1:∀ b,Zo Z0 S w0 (K++M) b→b<w.heap.size→Zo Z0 S w0 (K++L') b:=λb ⟨h1,h2⟩ hlt=>⟨h1,λj a hj ha=>by
  rcases get_app hj with hj|⟨_,hj⟩
  ·exact h2 j a (get_left hj) ha
  ·rcases hnew hj b ha with ⟨i,r,hi,hr⟩ | h3
   ·exact h2 _ r (get_right hi) hr
   ·omega⟩
 have hzM:∀ b,Zo Z0 S w0 (K++M) b→¬LS M b:=λb hb ⟨i,r,hi,hr⟩=>hb.2 _ r (get_right hi) hr
 refine ⟨hm.fr.trans' hF hM,?_,?_,?_⟩
 ·intro j a hj
  rcases get_app hj with hj|⟨_,hj⟩
  ·exact a.keep (hm.hs j a (get_left hj)) (λb hb hlt=>hF.keep b hlt (hKM hj b hb)) (λb hb hlt=>hF.keep b hlt (hzM b hb)) hz1
  ·rcases hZ with hfl | hZ
   ·exact hfl _ a hj _ _ _ (h'.hs _ a hj)
   ·refine a.keep (h'.hs _ a hj) (λ_ _ _=>rfl) (λ_ _ _=>rfl) λb hb hlt=>?_
    by_cases hlt2:b<w.heap.size
    ·rcases hb.1 with h1 | h1 | h1
     ·exact hz1 b (hZ b h1) hlt2
     ·refine ⟨hM b h1 |>.elim (λh=>.inr (.inl h)) λh=>.inr (.inr h),λi c hi hc=>?_⟩
      rcases get_app hi with hi|⟨_,hi⟩
      ·exact hKM hi b hc h1
      ·exact hb.2 _ c hi hc
     ·omega
    ·refine ⟨.inr (.inr (by omega)),λi c hi hc=>?_⟩
     rcases get_app hi with hi|⟨_,hi⟩
     ·have:=hm.lt (get_left hi) b hc;omega
     ·exact hb.2 _ c hi hc
 ·intro i j a b hij hi hj x hx hb
  rcases get_app hi with hi'|⟨hi1,hi'⟩
  ·rcases get_app hj with hj' | ⟨hj1,hj'⟩
   ·exact hm.ap i j a b hij (get_left hi') (get_left hj') x hx hb
   ·rcases hnew hj' x hb with h3 | h3
    ·exact hKM hi' x hx h3
    ·have:=hm.lt (get_left hi') x hx;omega
  ·rcases get_app hj with hj' | ⟨hj1,hj'⟩
   ·rcases hnew hi' x hx with h3 | h3
    ·exact hKM hj' x hb h3
    ·have:=hm.lt (get_left hj') x hb;omega
   ·exact h'.ap _ _ a b (by omega) hi' hj' x hx hb
 ·intro j a hj x hx
  rcases get_app hj with hj|⟨_,hj⟩
  ·exact hm.nw j a (get_left hj) x hx
  ·rcases hnew hj x hx with h3 | h3
   ·exact hM x h3
   ·exact .inr (by omega)
theorem Hp.callAZ (hm:Hp Z0 S w0 w (K++M)) (h':Hp (Zo Z0 S w0 (K++M)) (LS M) w w' L'):Hp Z0 S w0 w' (K++L'):=hm.callA h' (.inr λ_ hb=>hb)
theorem fl0:∀ (i:Nat) (r:Rs),([]:List Rs)[i]?=some r→r.Flat:=λi r h=>by simp at h
theorem flC {a:Rs} {L:List Rs} (h:a.Flat) (hL:∀ (i:Nat) r,L[i]?=some r→r.Flat):∀ (i:Nat) r,(a::L)[i]?=some r→r.Flat
 | 0,_,hh=>by cases hh;exact h
 | i+1,r,hh=>hL i r hh
theorem boxR_flat (b:Nat) (t:TypeId) (cs:List Value):(boxR b t cs).Flat:=λ_ _ _ h=>h
theorem box_rdR {b:Nat} {t:TypeId} {cs:List Value} {Z:Nat→Prop} (h:(boxR b t cs).H Z w):(rdR b 0 cs).H All w:=⟨λ_=>trivial,Blk.rd h⟩
theorem rdR_all {b o:Nat} {cs:List Value} {Z:Nat→Prop} (h:(rdR b o cs).H Z w):(rdR b o cs).H All w:=⟨λ_=>trivial,h.2⟩
end
theorem setL_append (pre:List Value):∀ (vs mid post:List Value),mid.length=vs.length→setL (pre++mid++post) pre.length vs=pre++vs++post
 | [],mid,post,h=>by have:mid=[]:=List.eq_nil_of_length_eq_zero h;simp [setL,this]
 | v::r,mid,post,h=>by
  cases mid with
  | nil=>cases h
  | cons m mr=>
   simp only [setL]
   have h2:(pre++m::mr++post).set pre.length v=(pre++[v])++mr++post:=by simp
   rw [h2];have:=setL_append (pre++[v]) r mr post (by simpa using h);simp only [List.length_append,List.length_cons,List.length_nil,Nat.zero_add] at this;rw [this];simp
theorem flatten_set (m:Nat):∀ (vss:List (List Value)) (hl:∀ vs∈vss,vs.length=m) (k:Nat) (vs us:List Value) (_:vss[k]?=some us) (_:vs.length=m),∃ pre post,vss.flatten=pre++us++post∧(vss.set k vs).flatten=pre++vs++post∧pre.length=k*m
 | [],_,k,vs,us,h,_=>by simp at h
 | x::r,hl,0,vs,us,h,_=>by simp at h;subst h;exact ⟨[],r.flatten,by simp,by simp,by simp⟩
 | x::r,hl,k+1,vs,us,h,hv=>by
  obtain ⟨pre,post,h1,h2,h3⟩:=flatten_set m r (λy hy=>hl y (by simp [hy])) k vs us (by simpa using h) hv;exact ⟨x++pre,post,by simp [h1],by simp [h2],by rw [List.length_append,h3,hl x (by simp),Nat.add_mul];omega⟩
section
variable {P:Program} {α:Type} {rep:Rep α} {Z0 S:Nat→Prop} {w0 w:World} {L:List Rs}
theorem own_set_run {t el:TypeId} {A:Option Addr} {c kk s:Nat} {xs:List α} {z:α} {v:Value} {vs:List Value} {D:Nat→Prop} (hO:Own 0 D w el A c rep xs) (hk:kk<xs.length) (hs:∀ w,(sizeOf t).run P w=.ok s w) (hv:v.cells=vs.toArray) (hsz:rep.sz=s) (hrel:rep.rel D w vs z) (hD:∀ b,D b→¬ob A b) :
 ∃ g w',A=some ⟨g,0,none⟩∧(storeVar t ⟨g,kk*s,none⟩ v).run P w=.ok () w'∧Own 0 D w' el A c rep (xs.set kk z)∧Fr (λb=>ob A b) w w':=by
 rcases hO.2.2 with ⟨rfl,hc⟩|⟨g,cs,vss,rfl,h1,h2,h3,h4,h5,h6⟩
 ·have:=hO.1;omega
 ·have hlen:=lens_of h4 h5
  have hkv:kk<vss.length:=by omega
  have hvl:=rep.len hrel;obtain ⟨pre,post,q1,q2,q3⟩:=flatten_set rep.sz vss hlen kk vs vss[kk] (List.getElem?_eq_getElem hkv) hvl;have hul:vss[kk].length=rep.sz:=hlen _ (List.getElem_mem hkv)
  have hcs:cs=pre++vss[kk]++(post++cs.drop (xs.length*rep.sz)):=by
   have:=List.take_append_drop (xs.length*rep.sz) cs;rw [h6,q1] at this;rw [← List.append_assoc];exact this.symm
  have hcl:kk*s+0+vs.length≤cs.length:=by
   rw [hcs];simp only [List.length_append,q3,hul,hsz,hvl] at *;omega
  obtain ⟨w',hr,hB,hF⟩:=storeCells_blk P el g vs cs (kk*s) 0 w h2 (rep.one hrel) hcl
  have hset:setL cs (kk*s+0) vs=pre++vs++(post++cs.drop (xs.length*rep.sz)):=by
   have hp:kk*s+0=pre.length:=by rw [q3,hsz];omega
   rw [hp];rw [hcs];have:=setL_append pre vs vss[kk] (post++cs.drop (xs.length*rep.sz)) (by rw [hul,hvl])
   conv=>lhs;rw [← hcs]
   rw [← hcs] at this ⊢;exact this
  have hF':Fr (λb=>ob (some ⟨g,0,none⟩) b) w w':=hF.mono λb hb=>by rw [hb];rfl
  refine ⟨g,w',rfl,?_,⟨by rw [List.length_set];exact hO.1,hO.2.1,.inr ⟨g,setL cs (kk*s+0) vs,vss.set kk vs,rfl,h1,hB,by rw [length_setL];exact h3,by simp [h4],?_,?_⟩⟩,hF'⟩
  ·have hsize:v.cells.size=s:=by rw [hv];simp [hvl,hsz]
   simp [storeVar,hs,hv,hvl,hsz,hr]
  ·intro k us x hu hx
   rw [List.getElem?_set] at hu hx
   split at hu
   ·rename_i hkk
    rw [if_pos hkk] at hx
    have e1:us=vs:=by
     first
     | exact (Option.some.inj hu).symm
     | (rw [if_pos (by omega)] at hu;exact (Option.some.inj hu).symm)
    have e2:x=z:=by
     rw [if_pos (by omega)] at hx;exact (Option.some.inj hx).symm
    subst e1 e2;exact Rep.fr hrel hF' hD
   ·rename_i hkk
    rw [if_neg hkk] at hx;exact Rep.fr (h5 k us x hu hx) hF' hD
  ·rw [List.length_set,hset,q2,← List.append_assoc]
   have:(pre++vs++post).length=xs.length*rep.sz:=by
    have hh:=length_flat rep.sz vss hlen;rw [q1,h4] at hh;simp only [List.length_append,hul,hvl] at hh ⊢;omega
   rw [← this,List.take_left]
variable {f:FuncId} {n:Nat} {R:Ending→World→Prop} {k:List Item} {e:Env}
variable {ops:Array Oper} {i:Nat} {rest:List Nat} {d:Nat} {dst:Option Nat} {ty:TypeId} {pos:String} {af:Array Edge} {g:Option (Nat×Bool)}
theorem Hp.ownAt {A:Option Addr} {c kk:Nat} {xs:List α} {et:TypeId} {z:α} (hm:Hp Z0 S w0 w L) (m':Nat) (hi:L[m']?=some (ownR et A c rep xs)) (hz:xs[kk]?=some z):∃ gb vs,A=some ⟨gb,0,none⟩∧Rd w gb (kk*rep.sz) vs∧rep.rel (Zo Z0 S w0 L) w vs z:=by
 have hO:=hm.get m' hi;have hS:=Own.src hO (by rintro rfl;simp at hz);obtain ⟨b,o,vss,hA,hl,hrel,hc⟩:=hS
 have hk:kk<vss.length:=by rw [hl];exact lt_of_get hz
 rcases hO.2.2 with ⟨rfl,hc⟩|⟨gb,cs',vss',rfl,_⟩
 ·have:=hO.1;have:=lt_of_get hz;omega
 ·injection hA with hA
  injection hA with hA hA2
  subst hA hA2;refine ⟨_,vss[kk],rfl,?_,hrel kk _ z (List.getElem?_eq_getElem hk) hz⟩;intro jj v hv;have:=flatten_get rep.sz vss (lens_of hl hrel) kk _ (List.getElem?_eq_getElem hk) jj v hv;have:=hc _ v this;rw [Nat.zero_add] at this;exact this
theorem stE_run {t el:TypeId} {x y:Operand} {gb kk s c:Nat} {xs:List α} {z:α} {v:Value} {vs:List Value} (hm:Hp Z0 S w0 w L) (m':Nat) (hi:L[m']?=some (ownR el (some ⟨gb,0,none⟩) c rep xs)) (hk:kk<xs.length)
 (hs:∀ w,(sizeOf t).run P w=.ok s w) (hsz:rep.sz=s) (hx:ev e x=some (.pointer (some ⟨gb,kk*s,none⟩))) (hy:ev e y=some v) (hv:v.cells=vs.toArray) (hrel:rep.rel (Zo Z0 S w0 L) w vs z) :
 ∃ w',(∀ a:Act,Fits e n a.tmps→(execOp a.eval ⟨none,.store t x y,ty,pos,af,g⟩).run P w=.ok .skip w')∧Hp Z0 S w0 w' (L.set m' (ownR el (some ⟨gb,0,none⟩) c rep (xs.set kk z))):=by
 have h0:=hm.get m' hi;have hO:Own 0 (λb=>Zo Z0 S w0 L b∧b<w.heap.size) w el (some ⟨gb,0,none⟩) c rep xs:=Own.bd h0;obtain ⟨g',w',hA,hr,hO2,hF⟩:=own_set_run (P:=P) (t:=t) hO hk hs hv hsz (rep.bd hrel) (λb hb hob=>hb.1.2 m' _ hi hob)
 cases hA
 exact ⟨w',λa hf=>by simp [execOp,ev_eval hf hx,ev_eval hf hy,Instr.storeAt,Instr.sureAddr,hr],hm.upd m' _ hi hF (λx hx=>.inl hx) λZ' h1 _=>hO2.mono λb hb=>h1 b hb.1 hb.2⟩
theorem Rn.stE {t el:TypeId} {x y:Operand} {gb kk s c:Nat} {xs:List α} {z:α} {v:Value} {vs:List Value} (hm:Hp Z0 S w0 w L) (m':Nat) (hi:L[m']?=some (ownR el (some ⟨gb,0,none⟩) c rep xs)) (hk:kk<xs.length) (ho:ops[i]?=some ⟨none,.store t x y,ty,pos,af,g⟩) (hg:gok e ops g=true)
 (hs:∀ w,(sizeOf t).run P w=.ok s w) (hsz:rep.sz=s) (hx:ev e x=some (.pointer (some ⟨gb,kk*s,none⟩))) (hy:ev e y=some v) (hv:v.cells=vs.toArray) (hrel:rep.rel (Zo Z0 S w0 L) w vs z)
 (h:∀ w',Hp Z0 S w0 w' (L.set m' (ownR el (some ⟨gb,0,none⟩) c rep (xs.set kk z)))→Rn P f n R (.inRegion ops rest::k) e w'):Rn P f n R (.inRegion ops (i::rest)::k) e w:=by
 obtain ⟨w',hr,hm'⟩:=stE_run (P:=P) (n:=n) (ty:=ty) (pos:=pos) (af:=af) (g:=g) hm m' hi hk hs hsz hx hy hv hrel;exact Rn.opU ho hg rfl hr (h w' hm')
end
section
variable {P:Program} {f:FuncId} {n:Nat} {R:Ending→World→Prop} {k:List Item} {e:Env} {w:World}
variable {ops:Array Oper} {S:World→Prop} {fuel:Nat} {listed:Array Bool} {d:Nat} {o:Oper} {ty:TypeId} {pos:String} {af:Array Edge} {g:Option (Nat×Bool)}
theorem Rn.drawX {id:Nat} {ops:Array Oper} {Z0 S':Nat→Prop} {w0:World} {L:List Rs} (hm':P.follows .mixedOrders=true) (hm:Hp Z0 S' w0 w L)
 (h:∀ w1,Hp Z0 S' w0 w1 L→RH P f n R k ops (λ_=>True) ops.size (Array.replicate ops.size false) e w1):Rn P f n R (.code (.region id ops true)::k) e w:=
 Rn.draw (λ_=>True) hm' trivial (h w.drew (hm.ext (Ext.drew w)))
theorem RH.two {di dj:Nat} {oi oj:Oper} {vi vj:Value} (i j:Nat) (hr:Region.ready .any ops listed=[i,j]) (hoi:ops[i]?=some oi) (hgi:gok e ops oi.guard=true) (hdi:oi.dst=some di) (hni:Nat.blt di n=true) (hvi:OpV P n e w oi vi w)
 (hoj:ops[j]?=some oj) (hgj:gok e ops oj.guard=true) (hdj:oj.dst=some dj) (hnj:Nat.blt dj n=true) (hvj:OpV P n e w oj vj w)
 (hi:RG P n K ops S fuel (listed.setIfInBounds i true) ((di,vi)::e) w) (hj:RG P n K ops S fuel (listed.setIfInBounds j true) ((dj,vj)::e) w):RG P n K ops S (fuel+1) listed e w:=by
 intro a ha hf hS
 refine wpAnyH_all hr (by simp) λq hq=>?_
 rcases List.mem_cons.1 hq with rfl|hq
 ·unfold wpOp
  simp only [hoi,wanted_of_gok hf hgi,if_true];refine .inl ?_;unfold Oper.wp;rw [hvi a hf,Oper.upon_value,hdi];exact ⟨hS,hi _ (by rw [defers_put];exact ha) (fits_put hf hni vi) hS⟩
 ·obtain rfl:q=j:=by simpa using hq
  unfold wpOp;simp only [hoj,wanted_of_gok hf hgj,if_true];refine .inl ?_;unfold Oper.wp;rw [hvj a hf,Oper.upon_value,hdj];exact ⟨hS,hj _ (by rw [defers_put];exact ha) (fits_put hf hnj vj) hS⟩
theorem RH.here (h:S w→RG P n K ops S fuel listed e w):RG P n K ops S fuel listed e w:=λa ha hf hS=>h hS a ha hf hS
theorem RH.alloc {t:TypeId} {z:Value} {cs:List Value} (i:Nat) (hr:Region.ready .any ops listed=[i]) (ho:ops[i]?=some ⟨some d,.alloc t,ty,pos,af,g⟩) (hg:gok e ops g=true) (hn:Nat.blt d n=true) (hz:∀ w,(zeroValue t).run P w=.ok z w) (hc:z.cells=cs.toArray)
 (h:∀ b w',b=w.heap.size→Blk w' b t cs→Ext w w'→S w'∧RG P n K ops S fuel (listed.setIfInBounds i true) ((d,.pointer (some ⟨b,0,none⟩))::e) w'):RG P n K ops S (fuel+1) listed e w:=by
 obtain ⟨h6,h7⟩:=h w.heap.size (w.alloc (.cells cs.toArray t)) rfl (Blk.new w t cs) (Ext.alloc w _);exact RH.one i hr ho hg rfl hn (V.alloc hz hc) h6 h7
theorem RH.st {t:TypeId} {x y:Operand} {b o s:Nat} {t':TypeId} {cs vs:List Value} {v:Value} (i:Nat) (hr:Region.ready .any ops listed=[i]) (ho:ops[i]?=some ⟨none,.store t x y,ty,pos,af,g⟩) (hg:gok e ops g=true) (hs:∀ w,(sizeOf t).run P w=.ok s w) (hx:ev e x=some (.pointer (some ⟨b,o,none⟩))) (hy:ev e y=some v) (hv:v.cells=vs.toArray)
 (hl:vs.length=s) (h1:∀ u∈vs,u.oneCell'=true) (hB:Blk w b t' cs) (hfit:o+vs.length≤cs.length)
 (h:∀ w',Blk w' b t' (setL cs o vs)→Fr (λx=>x=b) w w'→S w'∧RG P n K ops S fuel (listed.setIfInBounds i true) e w'):RG P n K ops S (fuel+1) listed e w:=by
 obtain ⟨w',hr',hb,hf⟩:=storeCells_blk P t' b vs cs o 0 w hB h1 (by omega);obtain ⟨h6,h7⟩:=h w' hb hf;refine RH.oneU i hr ho hg rfl (λa hf=>?_) h6 h7;simp [execOp,ev_eval hf hx,ev_eval hf hy,Instr.storeAt,Instr.sureAddr,storeVar,hs,hv,hl,hr']
theorem RH.stE {α:Type} {rep:Rep α} {Z0 S':Nat→Prop} {w0:World} {L:List Rs} {t el:TypeId} {x y:Operand} {gb kk s c:Nat} {xs:List α} {z:α} {v:Value} {vs:List Value} (i:Nat) (hr:Region.ready .any ops listed=[i]) (hm:Hp Z0 S' w0 w L) (m':Nat) (hi:L[m']?=some (ownR el (some ⟨gb,0,none⟩) c rep xs)) (hk:kk<xs.length) (ho:ops[i]?=some ⟨none,.store t x y,ty,pos,af,g⟩) (hg:gok e ops g=true)
 (hs:∀ w,(sizeOf t).run P w=.ok s w) (hsz:rep.sz=s) (hx:ev e x=some (.pointer (some ⟨gb,kk*s,none⟩))) (hy:ev e y=some v) (hv:v.cells=vs.toArray) (hrel:rep.rel (Zo Z0 S' w0 L) w vs z)
 (h:∀ w',Hp Z0 S' w0 w' (L.set m' (ownR el (some ⟨gb,0,none⟩) c rep (xs.set kk z)))→S w'∧RG P n K ops S fuel (listed.setIfInBounds i true) e w'):RG P n K ops S (fuel+1) listed e w:=by
 obtain ⟨w',hr',hm'⟩:=stE_run (P:=P) (n:=n) (ty:=ty) (pos:=pos) (af:=af) (g:=g) hm m' hi hk hs hsz hx hy hv hrel;obtain ⟨h6,h7⟩:=h w' hm';exact RH.oneU i hr ho hg rfl hr' h6 h7
theorem RH.clV {gg:FuncId} {y:Operand} {cs:List Value} {xs:List Operand} {ts:Array TypeId} {vs:List Value} {R':Ending→World→Prop} (ck:CallOk P gg) (i:Nat) (hr:Region.ready .any ops listed=[i])
 (ho:ops[i]?=some ⟨some d,.call { callee:=.value y,args:=xs.toArray,argTypes:=ts },ty,pos,af,g⟩) (hg:gok e ops g=true) (hn:Nat.blt d n=true)
 (hy:ev e y=some (.func (.func gg) #[] cs.toArray)) (hx:evs e xs=some vs) (hc:Calls P gg (vs++cs).toArray w R')
 (h:∀ x w',R' x w'→∃ v,x=.returned v∧S w'∧RG P n K ops S fuel (listed.setIfInBounds i true) ((d,v)::e) w'):RG P n K ops S (fuel+1) listed e w:=by
 obtain ⟨fn,c,h1,h2,h3⟩:=ck
 exact RH.opC (g:=gg) (args:=(vs++cs).toArray) i hr ho hg rfl hn (λa hf=>by
  simp [execOp,resolve,ev_eval hf hy,Deferred.ofValue,invoke,run_callFunc h1 h2 h3,evs_map hf hx]) hc h
end
end Go.Wk
namespace Go.Wk
open Go Go.RowKit
variable {K:Act→World→Prop}
section
variable {P:Program} {n:Nat} {e:Env} {w:World} {dst:Option Nat} {ty:TypeId} {pos:String} {af:Array Edge} {g:Option (Nat×Bool)}
theorem V.ixE {t el:TypeId} {x y:Operand} {b m c:Nat} {q:IntKind} {j:Int} {s:Nat} (kk:Nat) (ht:P.underlying t=some (.slice el)) (hs:∀ w,(sizeOf el).run P w=.ok s w) (hx:ev e x=some (.slice (some ⟨b,0,none⟩) m c)) (hy:ev e y=some (.int q j)) (hj:j=(kk:Int)) (hm:kk<m) :
 OpV P n e w ⟨dst,.indexAddr t x y,ty,pos,af,g⟩ (.pointer (some ⟨b,kk*s,none⟩)) w:=by
 have:=V.ixA (P:=P) (n:=n) (w:=w) (dst:=dst) (ty:=ty) (pos:=pos) (af:=af) (g:=g) kk ht hs hx hy hj hm;rw [Nat.zero_add] at this;exact this
theorem ext_st {w1 w w':World} {b:Nat} (h:Ext w1 w) (hf:Fr (λx=>x=b) w w') (hb:w1.heap.size≤b):Ext w1 w':=h.trans' hf λx hx=>.inr (by subst hx;exact hb)
end
end Go.Wk
namespace Go.Wk
open Go Go.RowKit
variable {K:Act→World→Prop}
theorem Hp.dup {Z0 S:Nat→Prop} {w0 w:World} {L:List Rs} (hm:Hp Z0 S w0 w L) (i:Nat) {r:Rs} (hi:L[i]?=some r) (hF:∀ x,¬r.F x):Hp Z0 S w0 w (L++[r]):=hm.know r hF (hm.get i hi)
end Go.Wk
namespace Go.Wk
open Go Go.RowKit
variable {K:Act→World→Prop}
def setI {α:Type} (l:List α) (i:Int) (x:α):List α:=l.set i.toNat x
@[simp] theorem length_setI {α : Type} (l : List α) (i : Int) (x : α) : (setI l i x).length = l.length:=by simp [setI]
section
variable {α:Type} {rep:Rep α} {Z0 S:Nat→Prop} {w0 w:World} {L:List Rs}
theorem Hp.ownAtL {gb c kk:Nat} {xs:List α} {et:TypeId} {z:α} (hm:Hp Z0 S w0 w L) (m':Nat) (hi:L[m']?=some (ownR et (some ⟨gb,0,none⟩) c rep xs)) (hz:xs[kk]?=some z):∃ vs,Rd w gb (kk*rep.sz) vs∧rep.rel (Zo Z0 S w0 L) w vs z:=by
 obtain ⟨g,vs,hA,h1,h2⟩:=hm.ownAt m' hi hz
 injection hA with hA
 injection hA with hA _
 subst hA;exact ⟨vs,h1,h2⟩
variable {P:Program} {f:FuncId} {n:Nat} {R:Ending→World→Prop} {k:List Item} {e:Env}
variable {ops:Array Oper} {i:Nat} {rest:List Nat} {d:Nat} {dst:Option Nat} {ty:TypeId} {pos:String} {af:Array Edge} {g:Option (Nat×Bool)}
theorem Rn.stI {t el:TypeId} {x y:Operand} {gb kk s c:Nat} {j:Int} {xs:List α} {z:α} {v:Value} {vs:List Value} (hm:Hp Z0 S w0 w L) (m':Nat) (hi:L[m']?=some (ownR el (some ⟨gb,0,none⟩) c rep xs)) (hj:j=(kk:Int)) (hk:kk<xs.length) (ho:ops[i]?=some ⟨none,.store t x y,ty,pos,af,g⟩) (hg:gok e ops g=true)
 (hs:∀ w,(sizeOf t).run P w=.ok s w) (hsz:rep.sz=s) (hx:ev e x=some (.pointer (some ⟨gb,kk*s,none⟩))) (hy:ev e y=some v) (hv:v.cells=vs.toArray) (hrel:rep.rel (Zo Z0 S w0 L) w vs z)
 (h:∀ w',Hp Z0 S w0 w' (L.set m' (ownR el (some ⟨gb,0,none⟩) c rep (setI xs j z)))→Rn P f n R (.inRegion ops rest::k) e w'):Rn P f n R (.inRegion ops (i::rest)::k) e w:=by
 subst hj;exact Rn.stE hm m' hi hk ho hg hs hsz hx hy hv hrel h
theorem RH.stI {S':World→Prop} {fuel:Nat} {listed:Array Bool} {t el:TypeId} {x y:Operand} {gb kk s c:Nat} {j:Int} {xs:List α} {z:α} {v:Value} {vs:List Value} (i:Nat) (hr:Region.ready .any ops listed=[i]) (hm:Hp Z0 S w0 w L) (m':Nat) (hi:L[m']?=some (ownR el (some ⟨gb,0,none⟩) c rep xs)) (hj:j=(kk:Int)) (hk:kk<xs.length) (ho:ops[i]?=some ⟨none,.store t x y,ty,pos,af,g⟩) (hg:gok e ops g=true)
 (hs:∀ w,(sizeOf t).run P w=.ok s w) (hsz:rep.sz=s) (hx:ev e x=some (.pointer (some ⟨gb,kk*s,none⟩))) (hy:ev e y=some v) (hv:v.cells=vs.toArray) (hrel:rep.rel (Zo Z0 S w0 L) w vs z)
 (h:∀ w',Hp Z0 S w0 w' (L.set m' (ownR el (some ⟨gb,0,none⟩) c rep (setI xs j z)))→S' w'∧RG P n K ops S' fuel (listed.setIfInBounds i true) e w'):RG P n K ops S' (fuel+1) listed e w:=by
 subst hj;exact RH.stE i hr hm m' hi hk ho hg hs hsz hx hy hv hrel h
end
end Go.Wk
