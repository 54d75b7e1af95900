import Derived.Test.YtaikmpmokihciaaGreatRows
import Derived.Test.YtaikmpmokihciaaGreatVY2
import Derived.Test.YtaikmpmokihciaaGreatNY
import Derived.Test.YtaikmpmokihciaaGreatIY
set_option maxRecDepth 20000
set_option maxHeartbeats 40000000
set_option linter.unusedVariables false
set_option linter.unusedSimpArgs false
namespace Go.Proofs.YtaikmpmokihciaaGreat
open Go Go.RowKit Go.Wk _root_.Go.Proofs.Tryz
open _root_.Go.Proofs.Tryz renaming underlying3→U3,underlying5→U5,underlying9→U9,underlying23→U23,underlying30→U30,underlying32→U32,underlying34→U34,underlying36→U36,underlying38→U38,underlying51→U51,underlying70→U70,underlying72→U72,underlying74→U74,underlying116→U116,underlying130→U130,underlying132→U132,underlying134→U134,underlying136→U136,underlying138→U138,underlying140→U140,underlying157→U157,underlying175→U175,underlying181→U181,underlying187→U187,underlying206→U206,underlying217→U217,underlying238→U238,underlying239→U239,underlying273→U273,isAgg3→V3,isAgg4→V4,isAgg5→V5,isAgg9→V9,isAgg23→V23,isAgg30→V30,isAgg31→V31,isAgg32→V32,isAgg34→V34,isAgg36→V36,isAgg38→V38,isAgg51→V51,isAgg72→V72,isAgg116→V116,isAgg130→V130,isAgg138→V138,isAgg175→V175,sizeOf3→O3,sizeOf4→O4,sizeOf5→O5,sizeOf9→O9,sizeOf23→O23,sizeOf30→O30,sizeOf31→O31,sizeOf32→O32,sizeOf34→O34,sizeOf36→O36,sizeOf38→O38,sizeOf39→O39,sizeOf51→O51,sizeOf67→O67,sizeOf70→O70,sizeOf72→O72,sizeOf116→O116,sizeOf117→O117,sizeOf130→O130,sizeOf136→O136,sizeOf138→O138,sizeOf175→O175,sizeOf272→O272
variable {Z0:Nat→Prop} {w:World} {F0:Nat→Prop} {F1:Nat→Prop} {F2:Nat→Prop} {F3:Nat→Prop} {F4:Nat→Prop} {F5:Nat→Prop} {b0:Nat} {b1:Nat} {b2:Nat} {b3:Nat} {b4:Nat} {b5:Nat} {A0:Option Addr} {A1:Option Addr} {A2:Option Addr} {A3:Option Addr} {A4:Option Addr} {A5:Option Addr} {c0:Nat} {c1:Nat} {c2:Nat} {c3:Nat} {c4:Nat} {c5:Nat} {cs0:List Value} {cs1:List Value} {cs2:List Value} {cs3:List Value}
theorem st23:StOk prog 23 [.int .i64 0,.int .i64 0,.int .i64 0,.int .i64 0,.int .i64 0,.int .i64 0,.int .i64 0] [(0,1),(1,1),(2,1),(3,1),(4,1),(5,1),(6,1)]:=⟨Tryz.zeroValue23,_,U23,λw=>by kernel_rfl⟩
theorem st34:StOk prog 34 [.int .i64 0,.slice none 0 0] [(0,1),(1,1)]:=⟨Tryz.zeroValue34,_,U34,λw=>by kernel_rfl⟩
theorem st36:StOk prog 36 [.int .i64 0,.int .u64 0,.int .i64 0,.slice none 0 0,.int .i64 0,.slice none 0 0] [(0,1),(1,1),(2,2),(4,2)]:=⟨Tryz.zeroValue36,_,U36,λw=>by kernel_rfl⟩
theorem st38:StOk prog 38 [Str [],.slice none 0 0,.int .i64 0,.int .i64 0,.bool false,.int .i64 0,.int .i64 0,.int .i64 0,.int .u64 0,.int .u64 0,.int .i64 0,.int .u64 0,.int .i64 0,.slice none 0 0,.int .i64 0,.slice none 0 0,.int .i64 0] [(0,1),(1,1),(2,1),(3,1),(4,1),(5,1),(6,1),(7,1),(8,1),(9,1),(10,6),(16,1)]:=⟨Tryz.zeroValue38,_,U38,λw=>by kernel_rfl⟩
theorem st70:StOk prog 70 [.bool false,.int .i64 0,.int .i64 0,.int .i64 0,.int .u64 0,.int .u64 0,.int .i64 0,.int .u64 0,.int .i64 0,.slice none 0 0,.int .i64 0,.slice none 0 0] [(0,1),(1,1),(2,1),(3,1),(4,1),(5,1),(6,6)]:=⟨Tryz.zeroValue70,_,U70,λw=>by kernel_rfl⟩
theorem st72:StOk prog 72 [.bool false,.int .i64 0,.int .i64 0,.int .i64 0,.int .u64 0,.int .u64 0,.int .i64 0,.int .u64 0,.int .i64 0,.slice none 0 0,.int .i64 0,.slice none 0 0,Str [],.slice none 0 0,.int .i64 0,.int .i64 0,.bool false,.int .i64 0,.int .i64 0,.int .i64 0,.int .u64 0,.int .u64 0,.int .i64 0,.int .u64 0,.int .i64 0,.slice none 0 0,.int .i64 0,.slice none 0 0,.int .i64 0] [(0,12),(12,17)]:=⟨Tryz.zeroValue72,_,U72,λw=>by kernel_rfl⟩
theorem st74:StOk prog 74 [.int .i64 0,.int .i64 0,.int .i64 0,.int .i64 0,.int .i64 0,.int .i64 0,.int .i64 0,.pointer none] [(0,7),(7,1)]:=⟨Tryz.zeroValue74,_,U74,λw=>by kernel_rfl⟩
theorem st116:StOk prog 116 [Str [],Str []] [(0,1),(1,1)]:=⟨Tryz.zeroValue116,_,U116,λw=>by kernel_rfl⟩
theorem st132:StOk prog 132 [.int .i64 0,.int .i64 0,.map none] [(0,1),(1,1),(2,1)]:=⟨Tryz.zeroValue132,_,U132,λw=>by kernel_rfl⟩
theorem st136:StOk prog 136 [.bool false,.int .i64 0,.int .i64 0,.int .i64 0,.int .u64 0,.int .u64 0,.int .i64 0,.int .u64 0,.int .i64 0,.slice none 0 0,.int .i64 0,.slice none 0 0,Str [],.slice none 0 0,.int .i64 0,.int .i64 0,.bool false,.int .i64 0,.int .i64 0,.int .i64 0,.int .u64 0,.int .u64 0,.int .i64 0,.int .u64 0,.int .i64 0,.slice none 0 0,.int .i64 0,.slice none 0 0,.int .i64 0,.int .i64 0] [(0,29),(29,1)]:=⟨Tryz.zeroValue136,_,U136,λw=>by kernel_rfl⟩
theorem st157:StOk prog 157 [.slice none 0 0] [(0,1)]:=⟨Tryz.zeroValue157,_,U157,λw=>by kernel_rfl⟩
theorem st181:StOk prog 181 [.slice none 0 0,.int .i64 0,.int .i64 0] [(0,1),(1,1),(2,1)]:=⟨Tryz.zeroValue181,_,U181,λw=>by kernel_rfl⟩
theorem st187:StOk prog 187 [.pointer none,.int .i64 0] [(0,1),(1,1)]:=⟨Tryz.zeroValue187,_,U187,λw=>by kernel_rfl⟩
theorem st206:StOk prog 206 [.int .i64 0,.int .u64 0,.int .u64 0,.int .i64 0,.int .u64 0,.int .i64 0,.slice none 0 0,.int .i64 0,.slice none 0 0] [(0,1),(1,1),(2,1),(3,6)]:=⟨Tryz.zeroValue206,_,U206,λw=>by kernel_rfl⟩
theorem st273:StOk prog 273 [.pointer none,.int .i64 0,.slice none 0 0,.int .i64 0,.slice none 0 0] [(0,1),(1,2),(3,2)]:=⟨Tryz.zeroValue273,_,U273,λw=>by kernel_rfl⟩
theorem ar175:ArOk prog 175 [.int .i64 0,.slice none 0 0,.int .i64 0,.slice none 0 0] 2 2 34:=⟨Tryz.zeroValue175,U175,O34⟩
theorem ar238:ArOk prog 238 [.int .i64 0,.int .u64 0,.int .i64 0,.slice none 0 0,.int .i64 0,.slice none 0 0,.int .i64 0,.int .u64 0,.int .i64 0,.slice none 0 0,.int .i64 0,.slice none 0 0] 2 6 36:=⟨Tryz.zeroValue238,U238,O36⟩
theorem fo23:FoOk prog 23 [0,1,2,3,4,5,6]:=⟨_,U23,⟨_,O3,rfl⟩,rfl,⟨_,O3,rfl⟩,rfl,⟨_,O3,rfl⟩,rfl,⟨_,O3,rfl⟩,rfl,⟨_,O3,rfl⟩,rfl,⟨_,O3,rfl⟩,rfl,⟨_,O3,rfl⟩,rfl,trivial⟩
theorem fo34:FoOk prog 34 [0,1]:=⟨_,U34,⟨_,O3,rfl⟩,rfl,⟨_,O32,rfl⟩,rfl,trivial⟩
theorem fo36:FoOk prog 36 [0,1,2,4]:=⟨_,U36,⟨_,O3,rfl⟩,rfl,⟨_,O31,rfl⟩,rfl,⟨_,O34,rfl⟩,rfl,⟨_,O34,rfl⟩,rfl,trivial⟩
theorem fo38:FoOk prog 38 [0,1,2,3,4,5,6,7,8,9,10,16]:=⟨_,U38,⟨_,O9,rfl⟩,rfl,⟨_,O30,rfl⟩,rfl,⟨_,O3,rfl⟩,rfl,⟨_,O3,rfl⟩,rfl,⟨_,O4,rfl⟩,rfl,⟨_,O3,rfl⟩,rfl,⟨_,O3,rfl⟩,rfl,⟨_,O3,rfl⟩,rfl,⟨_,O31,rfl⟩,rfl,⟨_,O31,rfl⟩,rfl,⟨_,O36,rfl⟩,rfl,⟨_,O3,rfl⟩,rfl,trivial⟩
theorem fo70:FoOk prog 70 [0,1,2,3,4,5,6]:=⟨_,U70,⟨_,O4,rfl⟩,rfl,⟨_,O3,rfl⟩,rfl,⟨_,O3,rfl⟩,rfl,⟨_,O3,rfl⟩,rfl,⟨_,O31,rfl⟩,rfl,⟨_,O31,rfl⟩,rfl,⟨_,O36,rfl⟩,rfl,trivial⟩
theorem fo72:FoOk prog 72 [0,12]:=⟨_,U72,⟨_,O70,rfl⟩,rfl,⟨_,O38,rfl⟩,rfl,trivial⟩
theorem fo74:FoOk prog 74 [0,7]:=⟨_,U74,⟨_,O23,rfl⟩,rfl,⟨_,O67,rfl⟩,rfl,trivial⟩
theorem fo116:FoOk prog 116 [0,1]:=⟨_,U116,⟨_,O9,rfl⟩,rfl,⟨_,O9,rfl⟩,rfl,trivial⟩
theorem fo132:FoOk prog 132 [0,1,2]:=⟨_,U132,⟨_,O3,rfl⟩,rfl,⟨_,O3,rfl⟩,rfl,⟨_,O130,rfl⟩,rfl,trivial⟩
theorem fo136:FoOk prog 136 [0,29]:=⟨_,U136,⟨_,O72,rfl⟩,rfl,⟨_,O3,rfl⟩,rfl,trivial⟩
theorem fo157:FoOk prog 157 [0]:=⟨_,U157,⟨_,O51,rfl⟩,rfl,trivial⟩
theorem fo181:FoOk prog 181 [0,1,2]:=⟨_,U181,⟨_,O51,rfl⟩,rfl,⟨_,O3,rfl⟩,rfl,⟨_,O39,rfl⟩,rfl,trivial⟩
theorem fo187:FoOk prog 187 [0,1]:=⟨_,U187,⟨_,O117,rfl⟩,rfl,⟨_,O39,rfl⟩,rfl,trivial⟩
theorem fo206:FoOk prog 206 [0,1,2,3]:=⟨_,U206,⟨_,O3,rfl⟩,rfl,⟨_,O31,rfl⟩,rfl,⟨_,O31,rfl⟩,rfl,⟨_,O36,rfl⟩,rfl,trivial⟩
theorem fo273:FoOk prog 273 [0,1,3]:=⟨_,U273,⟨_,O272,rfl⟩,rfl,⟨_,O34,rfl⟩,rfl,⟨_,O34,rfl⟩,rfl,trivial⟩
def tab:List (Nat×List Nat):=[(23,[0,1,2,3,4,5,6]),(34,[0,1]),(36,[0,1,2,4]),(38,[0,1,2,3,4,5,6,7,8,9,10,16]),(70,[0,1,2,3,4,5,6]),(72,[0,12]),(74,[0,7]),(116,[0,1]),(132,[0,1,2]),(136,[0,29]),(157,[0]),(181,[0,1,2]),(187,[0,1]),(206,[0,1,2,3]),(273,[0,1,3])]
theorem tabOk:TabOk prog tab:=(.cons fo23 (.cons fo34 (.cons fo36 (.cons fo38 (.cons fo70 (.cons fo72 (.cons fo74 (.cons fo116 (.cons fo132 (.cons fo136 (.cons fo157 (.cons fo181 (.cons fo187 (.cons fo206 (.cons fo273 TabOk.nil)))))))))))))))
theorem gg {f:FuncId} {n:Nat} {R:Ending→World→Prop} {k k':List Item} {e e':Env} {w:World} (m:Nat) (h:sr tab n m k e=some (k',e')) (hr:Rn prog f n R k' e' w):Rn prog f n R k e w:=sr_ok tabOk m k e h hr
theorem eg {f:FuncId} {n:Nat} {R:Ending→World→Prop} {k':List Item} {e':Env} {w:World} {fn:Func} {c:Code} {args:List Value} (hf:prog.funcs[f]?=some fn) (m:Nat) (hr:Rn prog f n R k' e' w) (hb:fn.body=some c:=by exact rfl) (hn:fn.ntmps=n:=by exact rfl) (hl:args.length≤n:=by exact nbl rfl) (h:sr tab n m [.code c] (argEnv 0 args)=some (k',e'):=by exact rfl):Calls prog f args.toArray w R:=Rn.enter hf hb hn hl (gg m h hr)
theorem bD {f:FuncId} {n:Nat} {R:Ending→World→Prop} {k k1 k2:List Item} {e e1 e2:Env} {w:World} {β:Type} {a b:Option β} {r:β} {p:Prop} [Decidable p] {c:Operand} {x y:Code} (Y:(if p then a else b)=some r) (m1 m2:Nat) (ht:p→a=some r→Rn prog f n R k1 e1 w) (hf:¬p→b=some r→Rn prog f n R k2 e2 w) (hc:ev e c=some (.bool (decide p)):=by exact rfl) (h1:sr tab n m1 (.code x::k) e=some (k1,e1):=by exact rfl) (h2:sr tab n m2 (.code y::k) e=some (k2,e2):=by exact rfl):Rn prog f n R (.code (.cond c x y)::k) e w:=aD Y (λh Y=>gg m1 h1 (ht h Y)) (λh Y=>gg m2 h2 (hf h Y)) hc
theorem bS {f:FuncId} {n:Nat} {R:Ending→World→Prop} {k k1 k2:List Item} {e e1 e2:Env} {w:World} {β:Type} {a b:Option β} {r:β} {t:Bool} {c:Operand} {x y:Code} (Y:(if t=true then a else b)=some r) (m1 m2:Nat) (ht:t=true→a=some r→Rn prog f n R k1 e1 w) (hf:t=false→b=some r→Rn prog f n R k2 e2 w) (hc:ev e c=some (.bool t):=by exact rfl) (h1:sr tab n m1 (.code x::k) e=some (k1,e1):=by exact rfl) (h2:sr tab n m2 (.code y::k) e=some (k2,e2):=by exact rfl):Rn prog f n R (.code (.cond c x y)::k) e w:=aS Y (λh Y=>gg m1 h1 (ht h Y)) (λh Y=>gg m2 h2 (hf h Y)) hc
theorem dd {n:Nat} {K:Act→World→Prop} {S:World→Prop} {w:World} {ops:Array Oper} {fuel:Nat} {listed:Array Bool} {e e':Env} (is:List Nat) (hk:okTakes ops listed is=true) (hf:Nat.ble is.length fuel=true) (h:dr tab n ops is e=some e') (hr:RG prog n K ops S (fuel-is.length) (taken listed is) e' w):RG prog n K ops S fuel listed e w:=dr_ok tabOk is hk hf h hr
theorem dq {n:Nat} {K:Act→World→Prop} {S:World→Prop} {w:World} {ops:Array Oper} {fuel:Nat} {listed:Array Bool} {e e':Env} (is:List Nat) (hr:RG prog n K ops S (fuel-is.length) (taken listed is) e' w) (hk:okTakes ops listed is=true:=by kernel_rfl) (hf:Nat.ble is.length fuel=true:=by exact rfl) (h:dr tab n ops is e=some e':=by exact rfl):RG prog n K ops S fuel listed e w:=dr_ok tabOk is hk hf h hr
theorem slR_nil {α:Type} {rep:Rep α} (Z:Nat→Prop) (w:World):(slR none 0 rep []).H Z w:=⟨Nat.le_refl _,Nat.zero_le _,Sl.nil _ _ _ _⟩
theorem T_api_Pair.relE {Z:Nat→Prop} {w:World} {vs:List _root_.Go.Value} {x:T_api_Pair} (h:T_api_Pair.rep.rel Z w vs x):vs=[Str (x.Key),Str (x.Val)]:=by
 obtain ⟨_,_,rfl,⟨rfl,_⟩,⟨rfl,_⟩⟩:=h;exact rfl
theorem T_api_Pair.relI {Z:Nat→Prop} {w:World} {x:T_api_Pair} {vs:List _root_.Go.Value} (hv:vs=[Str (x.Key),Str (x.Val)]:=by exact rfl):T_api_Pair.rep.rel Z w vs x:=by subst hv;exact ⟨_,_,rfl,⟨rfl,trivial⟩,⟨rfl,trivial⟩⟩
theorem T_api_Pair.relA {w:World} {x:T_api_Pair} {vs:List _root_.Go.Value} (hv:vs=[Str (x.Key),Str (x.Val)]:=by exact rfl):T_api_Pair.rep.rel All w vs x:=T_api_Pair.relI hv
theorem T_api_Side.relE {Z:Nat→Prop} {w:World} {vs:List _root_.Go.Value} {x:T_api_Side} (h:T_api_Side.rep.rel Z w vs x):∃ (Ar1:Option Addr) (cr1:Nat),vs=[iv x.Offset,.slice Ar1 (x.Counts).length cr1]∧(slR Ar1 cr1 w64R x.Counts).H Z w:=by
 obtain ⟨_,_,rfl,⟨rfl,_⟩,⟨Ar1,cr1,rfl,p1,q1,s1⟩⟩:=h;exact ⟨Ar1,cr1,rfl,⟨p1,q1,s1⟩⟩
theorem T_api_Side.relI {Z:Nat→Prop} {w:World} {x:T_api_Side} {vs:List _root_.Go.Value} {Ar1:Option Addr} {cr1:Nat} (h0:(slR Ar1 cr1 w64R x.Counts).H Z w) (hv:vs=[iv x.Offset,.slice Ar1 (x.Counts).length cr1]:=by exact rfl):T_api_Side.rep.rel Z w vs x:=by subst hv;exact ⟨_,_,rfl,⟨rfl,trivial⟩,⟨_,_,rfl,h0.1,h0.2.1,h0.2.2⟩⟩
theorem T_api_Side.relA {w:World} {x:T_api_Side} {vs:List _root_.Go.Value} {Ar1:Option Addr} {cr1:Nat} {Z0:Nat→Prop} (h0:(slR Ar1 cr1 w64R x.Counts).H Z0 w) (hv:vs=[iv x.Offset,.slice Ar1 (x.Counts).length cr1]:=by exact rfl):T_api_Side.rep.rel All w vs x:=T_api_Side.relI (slR_all h0) hv
theorem T_api_Hist.relE {Z:Nat→Prop} {w:World} {vs:List _root_.Go.Value} {x:T_api_Hist} (h:T_api_Hist.rep.rel Z w vs x):∃ (Ar1:Option Addr) (cr1:Nat) (Ar3:Option Addr) (cr3:Nat),vs=[iv x.Scale,u64v x.Zero,iv x.Pos.Offset,.slice Ar1 (x.Pos.Counts).length cr1,iv x.Neg.Offset,.slice Ar3 (x.Neg.Counts).length cr3]∧(slR Ar1 cr1 w64R x.Pos.Counts).H Z w∧(slR Ar3 cr3 w64R x.Neg.Counts).H Z w:=by
 obtain ⟨_,_,rfl,⟨rfl,_⟩,⟨_,_,rfl,⟨rfl,_⟩,⟨_,_,rfl,⟨_,_,rfl,⟨rfl,_⟩,⟨Ar1,cr1,rfl,p1,q1,s1⟩⟩,⟨_,_,rfl,⟨rfl,_⟩,⟨Ar3,cr3,rfl,p3,q3,s3⟩⟩⟩⟩⟩:=h;exact ⟨Ar1,cr1,Ar3,cr3,rfl,⟨p1,q1,s1⟩,⟨p3,q3,s3⟩⟩
theorem T_api_Hist.relI {Z:Nat→Prop} {w:World} {x:T_api_Hist} {vs:List _root_.Go.Value} {Ar1:Option Addr} {cr1:Nat} {Ar3:Option Addr} {cr3:Nat} (h0:(slR Ar1 cr1 w64R x.Pos.Counts).H Z w) (h1:(slR Ar3 cr3 w64R x.Neg.Counts).H Z w) (hv:vs=[iv x.Scale,u64v x.Zero,iv x.Pos.Offset,.slice Ar1 (x.Pos.Counts).length cr1,iv x.Neg.Offset,.slice Ar3 (x.Neg.Counts).length cr3]:=by exact rfl):T_api_Hist.rep.rel Z w vs x:=by subst hv;exact ⟨_,_,rfl,⟨rfl,trivial⟩,⟨_,_,rfl,⟨rfl,trivial⟩,⟨_,_,rfl,⟨_,_,rfl,⟨rfl,trivial⟩,⟨_,_,rfl,h0.1,h0.2.1,h0.2.2⟩⟩,⟨_,_,rfl,⟨rfl,trivial⟩,⟨_,_,rfl,h1.1,h1.2.1,h1.2.2⟩⟩⟩⟩⟩
theorem T_api_Hist.relA {w:World} {x:T_api_Hist} {vs:List _root_.Go.Value} {Ar1:Option Addr} {cr1:Nat} {Ar3:Option Addr} {cr3:Nat} {Z0:Nat→Prop} {Z1:Nat→Prop} (h0:(slR Ar1 cr1 w64R x.Pos.Counts).H Z0 w) (h1:(slR Ar3 cr3 w64R x.Neg.Counts).H Z1 w) (hv:vs=[iv x.Scale,u64v x.Zero,iv x.Pos.Offset,.slice Ar1 (x.Pos.Counts).length cr1,iv x.Neg.Offset,.slice Ar3 (x.Neg.Counts).length cr3]:=by exact rfl):T_api_Hist.rep.rel All w vs x:=T_api_Hist.relI (slR_all h0) (slR_all h1) hv
theorem T_api_Point.relE {Z:Nat→Prop} {w:World} {vs:List _root_.Go.Value} {x:T_api_Point} (h:T_api_Point.rep.rel Z w vs x):∃ (Ar1:Option Addr) (cr1:Nat) (Ar3:Option Addr) (cr3:Nat) (Ar5:Option Addr) (cr5:Nat),vs=[Str (x.Name),.slice Ar1 (x.Attrs).length cr1,iv x.Kind,iv x.Temp,.bool (x.Mono),iv x.Start,iv x.Time,iv x.Int_,u64v x.Re,u64v x.Im,iv x.Hist.Scale,u64v x.Hist.Zero,iv x.Hist.Pos.Offset,.slice Ar3 (x.Hist.Pos.Counts).length cr3,iv x.Hist.Neg.Offset,.slice Ar5 (x.Hist.Neg.Counts).length cr5,iv x.Flags]∧(slR Ar1 cr1 T_api_Pair.rep x.Attrs).H Z w∧(slR Ar3 cr3 w64R x.Hist.Pos.Counts).H Z w∧(slR Ar5 cr5 w64R x.Hist.Neg.Counts).H Z w:=by
 obtain ⟨_,_,rfl,⟨rfl,_⟩,⟨_,_,rfl,⟨Ar1,cr1,rfl,p1,q1,s1⟩,⟨_,_,rfl,⟨rfl,_⟩,⟨_,_,rfl,⟨rfl,_⟩,⟨_,_,rfl,⟨rfl,_⟩,⟨_,_,rfl,⟨rfl,_⟩,⟨_,_,rfl,⟨rfl,_⟩,⟨_,_,rfl,⟨rfl,_⟩,⟨_,_,rfl,⟨rfl,_⟩,⟨_,_,rfl,⟨rfl,_⟩,⟨_,_,rfl,⟨_,_,rfl,⟨rfl,_⟩,⟨_,_,rfl,⟨rfl,_⟩,⟨_,_,rfl,⟨_,_,rfl,⟨rfl,_⟩,⟨Ar3,cr3,rfl,p3,q3,s3⟩⟩,⟨_,_,rfl,⟨rfl,_⟩,⟨Ar5,cr5,rfl,p5,q5,s5⟩⟩⟩⟩⟩,⟨rfl,_⟩⟩⟩⟩⟩⟩⟩⟩⟩⟩⟩⟩:=h;exact ⟨Ar1,cr1,Ar3,cr3,Ar5,cr5,rfl,⟨p1,q1,s1⟩,⟨p3,q3,s3⟩,⟨p5,q5,s5⟩⟩
theorem T_api_Point.relI {Z:Nat→Prop} {w:World} {x:T_api_Point} {vs:List _root_.Go.Value} {Ar1:Option Addr} {cr1:Nat} {Ar3:Option Addr} {cr3:Nat} {Ar5:Option Addr} {cr5:Nat} (h0:(slR Ar1 cr1 T_api_Pair.rep x.Attrs).H Z w) (h1:(slR Ar3 cr3 w64R x.Hist.Pos.Counts).H Z w) (h2:(slR Ar5 cr5 w64R x.Hist.Neg.Counts).H Z w) (hv:vs=[Str (x.Name),.slice Ar1 (x.Attrs).length cr1,iv x.Kind,iv x.Temp,.bool (x.Mono),iv x.Start,iv x.Time,iv x.Int_,u64v x.Re,u64v x.Im,iv x.Hist.Scale,u64v x.Hist.Zero,iv x.Hist.Pos.Offset,.slice Ar3 (x.Hist.Pos.Counts).length cr3,iv x.Hist.Neg.Offset,.slice Ar5 (x.Hist.Neg.Counts).length cr5,iv x.Flags]:=by exact rfl):T_api_Point.rep.rel Z w vs x:=by subst hv;exact ⟨_,_,rfl,⟨rfl,trivial⟩,⟨_,_,rfl,⟨_,_,rfl,h0.1,h0.2.1,h0.2.2⟩,⟨_,_,rfl,⟨rfl,trivial⟩,⟨_,_,rfl,⟨rfl,trivial⟩,⟨_,_,rfl,⟨rfl,trivial⟩,⟨_,_,rfl,⟨rfl,trivial⟩,⟨_,_,rfl,⟨rfl,trivial⟩,⟨_,_,rfl,⟨rfl,trivial⟩,⟨_,_,rfl,⟨rfl,trivial⟩,⟨_,_,rfl,⟨rfl,trivial⟩,⟨_,_,rfl,⟨_,_,rfl,⟨rfl,trivial⟩,⟨_,_,rfl,⟨rfl,trivial⟩,⟨_,_,rfl,⟨_,_,rfl,⟨rfl,trivial⟩,⟨_,_,rfl,h1.1,h1.2.1,h1.2.2⟩⟩,⟨_,_,rfl,⟨rfl,trivial⟩,⟨_,_,rfl,h2.1,h2.2.1,h2.2.2⟩⟩⟩⟩⟩,⟨rfl,trivial⟩⟩⟩⟩⟩⟩⟩⟩⟩⟩⟩⟩
theorem T_api_Point.relA {w:World} {x:T_api_Point} {vs:List _root_.Go.Value} {Ar1:Option Addr} {cr1:Nat} {Ar3:Option Addr} {cr3:Nat} {Ar5:Option Addr} {cr5:Nat} {Z0:Nat→Prop} {Z1:Nat→Prop} {Z2:Nat→Prop} (h0:(slR Ar1 cr1 T_api_Pair.rep x.Attrs).H Z0 w) (h1:(slR Ar3 cr3 w64R x.Hist.Pos.Counts).H Z1 w) (h2:(slR Ar5 cr5 w64R x.Hist.Neg.Counts).H Z2 w) (hv:vs=[Str (x.Name),.slice Ar1 (x.Attrs).length cr1,iv x.Kind,iv x.Temp,.bool (x.Mono),iv x.Start,iv x.Time,iv x.Int_,u64v x.Re,u64v x.Im,iv x.Hist.Scale,u64v x.Hist.Zero,iv x.Hist.Pos.Offset,.slice Ar3 (x.Hist.Pos.Counts).length cr3,iv x.Hist.Neg.Offset,.slice Ar5 (x.Hist.Neg.Counts).length cr5,iv x.Flags]:=by exact rfl):T_api_Point.rep.rel All w vs x:=T_api_Point.relI (slR_all h0) (slR_all h1) (slR_all h2) hv
theorem T_api_State.relE {Z:Nat→Prop} {w:World} {vs:List _root_.Go.Value} {x:T_api_State} (h:T_api_State.rep.rel Z w vs x):∃ (Ar1:Option Addr) (cr1:Nat) (Ar3:Option Addr) (cr3:Nat),vs=[.bool (x.Some),iv x.Start,iv x.Time,iv x.Int_,u64v x.Re,u64v x.Im,iv x.Hist.Scale,u64v x.Hist.Zero,iv x.Hist.Pos.Offset,.slice Ar1 (x.Hist.Pos.Counts).length cr1,iv x.Hist.Neg.Offset,.slice Ar3 (x.Hist.Neg.Counts).length cr3]∧(slR Ar1 cr1 w64R x.Hist.Pos.Counts).H Z w∧(slR Ar3 cr3 w64R x.Hist.Neg.Counts).H Z w:=by
 obtain ⟨_,_,rfl,⟨rfl,_⟩,⟨_,_,rfl,⟨rfl,_⟩,⟨_,_,rfl,⟨rfl,_⟩,⟨_,_,rfl,⟨rfl,_⟩,⟨_,_,rfl,⟨rfl,_⟩,⟨_,_,rfl,⟨rfl,_⟩,⟨_,_,rfl,⟨rfl,_⟩,⟨_,_,rfl,⟨rfl,_⟩,⟨_,_,rfl,⟨_,_,rfl,⟨rfl,_⟩,⟨Ar1,cr1,rfl,p1,q1,s1⟩⟩,⟨_,_,rfl,⟨rfl,_⟩,⟨Ar3,cr3,rfl,p3,q3,s3⟩⟩⟩⟩⟩⟩⟩⟩⟩⟩⟩:=h;exact ⟨Ar1,cr1,Ar3,cr3,rfl,⟨p1,q1,s1⟩,⟨p3,q3,s3⟩⟩
theorem T_api_State.relI {Z:Nat→Prop} {w:World} {x:T_api_State} {vs:List _root_.Go.Value} {Ar1:Option Addr} {cr1:Nat} {Ar3:Option Addr} {cr3:Nat} (h0:(slR Ar1 cr1 w64R x.Hist.Pos.Counts).H Z w) (h1:(slR Ar3 cr3 w64R x.Hist.Neg.Counts).H Z w) (hv:vs=[.bool (x.Some),iv x.Start,iv x.Time,iv x.Int_,u64v x.Re,u64v x.Im,iv x.Hist.Scale,u64v x.Hist.Zero,iv x.Hist.Pos.Offset,.slice Ar1 (x.Hist.Pos.Counts).length cr1,iv x.Hist.Neg.Offset,.slice Ar3 (x.Hist.Neg.Counts).length cr3]:=by exact rfl):T_api_State.rep.rel Z w vs x:=by subst hv;exact ⟨_,_,rfl,⟨rfl,trivial⟩,⟨_,_,rfl,⟨rfl,trivial⟩,⟨_,_,rfl,⟨rfl,trivial⟩,⟨_,_,rfl,⟨rfl,trivial⟩,⟨_,_,rfl,⟨rfl,trivial⟩,⟨_,_,rfl,⟨rfl,trivial⟩,⟨_,_,rfl,⟨rfl,trivial⟩,⟨_,_,rfl,⟨rfl,trivial⟩,⟨_,_,rfl,⟨_,_,rfl,⟨rfl,trivial⟩,⟨_,_,rfl,h0.1,h0.2.1,h0.2.2⟩⟩,⟨_,_,rfl,⟨rfl,trivial⟩,⟨_,_,rfl,h1.1,h1.2.1,h1.2.2⟩⟩⟩⟩⟩⟩⟩⟩⟩⟩⟩
theorem T_api_State.relA {w:World} {x:T_api_State} {vs:List _root_.Go.Value} {Ar1:Option Addr} {cr1:Nat} {Ar3:Option Addr} {cr3:Nat} {Z0:Nat→Prop} {Z1:Nat→Prop} (h0:(slR Ar1 cr1 w64R x.Hist.Pos.Counts).H Z0 w) (h1:(slR Ar3 cr3 w64R x.Hist.Neg.Counts).H Z1 w) (hv:vs=[.bool (x.Some),iv x.Start,iv x.Time,iv x.Int_,u64v x.Re,u64v x.Im,iv x.Hist.Scale,u64v x.Hist.Zero,iv x.Hist.Pos.Offset,.slice Ar1 (x.Hist.Pos.Counts).length cr1,iv x.Hist.Neg.Offset,.slice Ar3 (x.Hist.Neg.Counts).length cr3]:=by exact rfl):T_api_State.rep.rel All w vs x:=T_api_State.relI (slR_all h0) (slR_all h1) hv
theorem T_convert_kept.relE {Z:Nat→Prop} {w:World} {vs:List _root_.Go.Value} {x:T_convert_kept} (h:T_convert_kept.rep.rel Z w vs x):∃ (Ar1:Option Addr) (cr1:Nat) (Ar3:Option Addr) (cr3:Nat) (Ar5:Option Addr) (cr5:Nat) (Ar7:Option Addr) (cr7:Nat) (Ar9:Option Addr) (cr9:Nat),vs=[.bool (x.State.Some),iv x.State.Start,iv x.State.Time,iv x.State.Int_,u64v x.State.Re,u64v x.State.Im,iv x.State.Hist.Scale,u64v x.State.Hist.Zero,iv x.State.Hist.Pos.Offset,.slice Ar1 (x.State.Hist.Pos.Counts).length cr1,iv x.State.Hist.Neg.Offset,.slice Ar3 (x.State.Hist.Neg.Counts).length cr3,Str (x.series.Name),.slice Ar5 (x.series.Attrs).length cr5,iv x.series.Kind,iv x.series.Temp,.bool (x.series.Mono),iv x.series.Start,iv x.series.Time,iv x.series.Int_,u64v x.series.Re,u64v x.series.Im,iv x.series.Hist.Scale,u64v x.series.Hist.Zero,iv x.series.Hist.Pos.Offset,.slice Ar7 (x.series.Hist.Pos.Counts).length cr7,iv x.series.Hist.Neg.Offset,.slice Ar9 (x.series.Hist.Neg.Counts).length cr9,iv x.series.Flags]∧(slR Ar1 cr1 w64R x.State.Hist.Pos.Counts).H Z w∧(slR Ar3 cr3 w64R x.State.Hist.Neg.Counts).H Z w∧(slR Ar5 cr5 T_api_Pair.rep x.series.Attrs).H Z w∧(slR Ar7 cr7 w64R x.series.Hist.Pos.Counts).H Z w∧(slR Ar9 cr9 w64R x.series.Hist.Neg.Counts).H Z w:=by
 obtain ⟨_,_,rfl,⟨_,_,rfl,⟨rfl,_⟩,⟨_,_,rfl,⟨rfl,_⟩,⟨_,_,rfl,⟨rfl,_⟩,⟨_,_,rfl,⟨rfl,_⟩,⟨_,_,rfl,⟨rfl,_⟩,⟨_,_,rfl,⟨rfl,_⟩,⟨_,_,rfl,⟨rfl,_⟩,⟨_,_,rfl,⟨rfl,_⟩,⟨_,_,rfl,⟨_,_,rfl,⟨rfl,_⟩,⟨Ar1,cr1,rfl,p1,q1,s1⟩⟩,⟨_,_,rfl,⟨rfl,_⟩,⟨Ar3,cr3,rfl,p3,q3,s3⟩⟩⟩⟩⟩⟩⟩⟩⟩⟩⟩,⟨_,_,rfl,⟨rfl,_⟩,⟨_,_,rfl,⟨Ar5,cr5,rfl,p5,q5,s5⟩,⟨_,_,rfl,⟨rfl,_⟩,⟨_,_,rfl,⟨rfl,_⟩,⟨_,_,rfl,⟨rfl,_⟩,⟨_,_,rfl,⟨rfl,_⟩,⟨_,_,rfl,⟨rfl,_⟩,⟨_,_,rfl,⟨rfl,_⟩,⟨_,_,rfl,⟨rfl,_⟩,⟨_,_,rfl,⟨rfl,_⟩,⟨_,_,rfl,⟨_,_,rfl,⟨rfl,_⟩,⟨_,_,rfl,⟨rfl,_⟩,⟨_,_,rfl,⟨_,_,rfl,⟨rfl,_⟩,⟨Ar7,cr7,rfl,p7,q7,s7⟩⟩,⟨_,_,rfl,⟨rfl,_⟩,⟨Ar9,cr9,rfl,p9,q9,s9⟩⟩⟩⟩⟩,⟨rfl,_⟩⟩⟩⟩⟩⟩⟩⟩⟩⟩⟩⟩⟩:=h;exact ⟨Ar1,cr1,Ar3,cr3,Ar5,cr5,Ar7,cr7,Ar9,cr9,rfl,⟨p1,q1,s1⟩,⟨p3,q3,s3⟩,⟨p5,q5,s5⟩,⟨p7,q7,s7⟩,⟨p9,q9,s9⟩⟩
theorem T_convert_kept.relI {Z:Nat→Prop} {w:World} {x:T_convert_kept} {vs:List _root_.Go.Value} {Ar1:Option Addr} {cr1:Nat} {Ar3:Option Addr} {cr3:Nat} {Ar5:Option Addr} {cr5:Nat} {Ar7:Option Addr} {cr7:Nat} {Ar9:Option Addr} {cr9:Nat} (h0:(slR Ar1 cr1 w64R x.State.Hist.Pos.Counts).H Z w) (h1:(slR Ar3 cr3 w64R x.State.Hist.Neg.Counts).H Z w) (h2:(slR Ar5 cr5 T_api_Pair.rep x.series.Attrs).H Z w) (h3:(slR Ar7 cr7 w64R x.series.Hist.Pos.Counts).H Z w) (h4:(slR Ar9 cr9 w64R x.series.Hist.Neg.Counts).H Z w) (hv:vs=[.bool (x.State.Some),iv x.State.Start,iv x.State.Time,iv x.State.Int_,u64v x.State.Re,u64v x.State.Im,iv x.State.Hist.Scale,u64v x.State.Hist.Zero,iv x.State.Hist.Pos.Offset,.slice Ar1 (x.State.Hist.Pos.Counts).length cr1,iv x.State.Hist.Neg.Offset,.slice Ar3 (x.State.Hist.Neg.Counts).length cr3,Str (x.series.Name),.slice Ar5 (x.series.Attrs).length cr5,iv x.series.Kind,iv x.series.Temp,.bool (x.series.Mono),iv x.series.Start,iv x.series.Time,iv x.series.Int_,u64v x.series.Re,u64v x.series.Im,iv x.series.Hist.Scale,u64v x.series.Hist.Zero,iv x.series.Hist.Pos.Offset,.slice Ar7 (x.series.Hist.Pos.Counts).length cr7,iv x.series.Hist.Neg.Offset,.slice Ar9 (x.series.Hist.Neg.Counts).length cr9,iv x.series.Flags]:=by exact rfl):T_convert_kept.rep.rel Z w vs x:=by subst hv;exact ⟨_,_,rfl,⟨_,_,rfl,⟨rfl,trivial⟩,⟨_,_,rfl,⟨rfl,trivial⟩,⟨_,_,rfl,⟨rfl,trivial⟩,⟨_,_,rfl,⟨rfl,trivial⟩,⟨_,_,rfl,⟨rfl,trivial⟩,⟨_,_,rfl,⟨rfl,trivial⟩,⟨_,_,rfl,⟨rfl,trivial⟩,⟨_,_,rfl,⟨rfl,trivial⟩,⟨_,_,rfl,⟨_,_,rfl,⟨rfl,trivial⟩,⟨_,_,rfl,h0.1,h0.2.1,h0.2.2⟩⟩,⟨_,_,rfl,⟨rfl,trivial⟩,⟨_,_,rfl,h1.1,h1.2.1,h1.2.2⟩⟩⟩⟩⟩⟩⟩⟩⟩⟩⟩,⟨_,_,rfl,⟨rfl,trivial⟩,⟨_,_,rfl,⟨_,_,rfl,h2.1,h2.2.1,h2.2.2⟩,⟨_,_,rfl,⟨rfl,trivial⟩,⟨_,_,rfl,⟨rfl,trivial⟩,⟨_,_,rfl,⟨rfl,trivial⟩,⟨_,_,rfl,⟨rfl,trivial⟩,⟨_,_,rfl,⟨rfl,trivial⟩,⟨_,_,rfl,⟨rfl,trivial⟩,⟨_,_,rfl,⟨rfl,trivial⟩,⟨_,_,rfl,⟨rfl,trivial⟩,⟨_,_,rfl,⟨_,_,rfl,⟨rfl,trivial⟩,⟨_,_,rfl,⟨rfl,trivial⟩,⟨_,_,rfl,⟨_,_,rfl,⟨rfl,trivial⟩,⟨_,_,rfl,h3.1,h3.2.1,h3.2.2⟩⟩,⟨_,_,rfl,⟨rfl,trivial⟩,⟨_,_,rfl,h4.1,h4.2.1,h4.2.2⟩⟩⟩⟩⟩,⟨rfl,trivial⟩⟩⟩⟩⟩⟩⟩⟩⟩⟩⟩⟩⟩
theorem T_convert_kept.relA {w:World} {x:T_convert_kept} {vs:List _root_.Go.Value} {Ar1:Option Addr} {cr1:Nat} {Ar3:Option Addr} {cr3:Nat} {Ar5:Option Addr} {cr5:Nat} {Ar7:Option Addr} {cr7:Nat} {Ar9:Option Addr} {cr9:Nat} {Z0:Nat→Prop} {Z1:Nat→Prop} {Z2:Nat→Prop} {Z3:Nat→Prop} {Z4:Nat→Prop} (h0:(slR Ar1 cr1 w64R x.State.Hist.Pos.Counts).H Z0 w) (h1:(slR Ar3 cr3 w64R x.State.Hist.Neg.Counts).H Z1 w) (h2:(slR Ar5 cr5 T_api_Pair.rep x.series.Attrs).H Z2 w) (h3:(slR Ar7 cr7 w64R x.series.Hist.Pos.Counts).H Z3 w) (h4:(slR Ar9 cr9 w64R x.series.Hist.Neg.Counts).H Z4 w) (hv:vs=[.bool (x.State.Some),iv x.State.Start,iv x.State.Time,iv x.State.Int_,u64v x.State.Re,u64v x.State.Im,iv x.State.Hist.Scale,u64v x.State.Hist.Zero,iv x.State.Hist.Pos.Offset,.slice Ar1 (x.State.Hist.Pos.Counts).length cr1,iv x.State.Hist.Neg.Offset,.slice Ar3 (x.State.Hist.Neg.Counts).length cr3,Str (x.series.Name),.slice Ar5 (x.series.Attrs).length cr5,iv x.series.Kind,iv x.series.Temp,.bool (x.series.Mono),iv x.series.Start,iv x.series.Time,iv x.series.Int_,u64v x.series.Re,u64v x.series.Im,iv x.series.Hist.Scale,u64v x.series.Hist.Zero,iv x.series.Hist.Pos.Offset,.slice Ar7 (x.series.Hist.Pos.Counts).length cr7,iv x.series.Hist.Neg.Offset,.slice Ar9 (x.series.Hist.Neg.Counts).length cr9,iv x.series.Flags]:=by exact rfl):T_convert_kept.rep.rel All w vs x:=T_convert_kept.relI (slR_all h0) (slR_all h1) (slR_all h2) (slR_all h3) (slR_all h4) hv
theorem T_table_slot_convert_kept_.relE {Z:Nat→Prop} {w:World} {vs:List _root_.Go.Value} {x:T_table_slot_convert_kept_} (h:T_table_slot_convert_kept_.rep.rel Z w vs x):∃ (Ar1:Option Addr) (cr1:Nat) (Ar3:Option Addr) (cr3:Nat) (Ar5:Option Addr) (cr5:Nat) (Ar7:Option Addr) (cr7:Nat) (Ar9:Option Addr) (cr9:Nat),vs=[.bool (x.v.State.Some),iv x.v.State.Start,iv x.v.State.Time,iv x.v.State.Int_,u64v x.v.State.Re,u64v x.v.State.Im,iv x.v.State.Hist.Scale,u64v x.v.State.Hist.Zero,iv x.v.State.Hist.Pos.Offset,.slice Ar1 (x.v.State.Hist.Pos.Counts).length cr1,iv x.v.State.Hist.Neg.Offset,.slice Ar3 (x.v.State.Hist.Neg.Counts).length cr3,Str (x.v.series.Name),.slice Ar5 (x.v.series.Attrs).length cr5,iv x.v.series.Kind,iv x.v.series.Temp,.bool (x.v.series.Mono),iv x.v.series.Start,iv x.v.series.Time,iv x.v.series.Int_,u64v x.v.series.Re,u64v x.v.series.Im,iv x.v.series.Hist.Scale,u64v x.v.series.Hist.Zero,iv x.v.series.Hist.Pos.Offset,.slice Ar7 (x.v.series.Hist.Pos.Counts).length cr7,iv x.v.series.Hist.Neg.Offset,.slice Ar9 (x.v.series.Hist.Neg.Counts).length cr9,iv x.v.series.Flags,iv x.when]∧(slR Ar1 cr1 w64R x.v.State.Hist.Pos.Counts).H Z w∧(slR Ar3 cr3 w64R x.v.State.Hist.Neg.Counts).H Z w∧(slR Ar5 cr5 T_api_Pair.rep x.v.series.Attrs).H Z w∧(slR Ar7 cr7 w64R x.v.series.Hist.Pos.Counts).H Z w∧(slR Ar9 cr9 w64R x.v.series.Hist.Neg.Counts).H Z w:=by
 obtain ⟨_,_,rfl,⟨_,_,rfl,⟨_,_,rfl,⟨rfl,_⟩,⟨_,_,rfl,⟨rfl,_⟩,⟨_,_,rfl,⟨rfl,_⟩,⟨_,_,rfl,⟨rfl,_⟩,⟨_,_,rfl,⟨rfl,_⟩,⟨_,_,rfl,⟨rfl,_⟩,⟨_,_,rfl,⟨rfl,_⟩,⟨_,_,rfl,⟨rfl,_⟩,⟨_,_,rfl,⟨_,_,rfl,⟨rfl,_⟩,⟨Ar1,cr1,rfl,p1,q1,s1⟩⟩,⟨_,_,rfl,⟨rfl,_⟩,⟨Ar3,cr3,rfl,p3,q3,s3⟩⟩⟩⟩⟩⟩⟩⟩⟩⟩⟩,⟨_,_,rfl,⟨rfl,_⟩,⟨_,_,rfl,⟨Ar5,cr5,rfl,p5,q5,s5⟩,⟨_,_,rfl,⟨rfl,_⟩,⟨_,_,rfl,⟨rfl,_⟩,⟨_,_,rfl,⟨rfl,_⟩,⟨_,_,rfl,⟨rfl,_⟩,⟨_,_,rfl,⟨rfl,_⟩,⟨_,_,rfl,⟨rfl,_⟩,⟨_,_,rfl,⟨rfl,_⟩,⟨_,_,rfl,⟨rfl,_⟩,⟨_,_,rfl,⟨_,_,rfl,⟨rfl,_⟩,⟨_,_,rfl,⟨rfl,_⟩,⟨_,_,rfl,⟨_,_,rfl,⟨rfl,_⟩,⟨Ar7,cr7,rfl,p7,q7,s7⟩⟩,⟨_,_,rfl,⟨rfl,_⟩,⟨Ar9,cr9,rfl,p9,q9,s9⟩⟩⟩⟩⟩,⟨rfl,_⟩⟩⟩⟩⟩⟩⟩⟩⟩⟩⟩⟩⟩,⟨rfl,_⟩⟩:=h;exact ⟨Ar1,cr1,Ar3,cr3,Ar5,cr5,Ar7,cr7,Ar9,cr9,rfl,⟨p1,q1,s1⟩,⟨p3,q3,s3⟩,⟨p5,q5,s5⟩,⟨p7,q7,s7⟩,⟨p9,q9,s9⟩⟩
theorem T_table_slot_convert_kept_.relI {Z:Nat→Prop} {w:World} {x:T_table_slot_convert_kept_} {vs:List _root_.Go.Value} {Ar1:Option Addr} {cr1:Nat} {Ar3:Option Addr} {cr3:Nat} {Ar5:Option Addr} {cr5:Nat} {Ar7:Option Addr} {cr7:Nat} {Ar9:Option Addr} {cr9:Nat} (h0:(slR Ar1 cr1 w64R x.v.State.Hist.Pos.Counts).H Z w) (h1:(slR Ar3 cr3 w64R x.v.State.Hist.Neg.Counts).H Z w) (h2:(slR Ar5 cr5 T_api_Pair.rep x.v.series.Attrs).H Z w) (h3:(slR Ar7 cr7 w64R x.v.series.Hist.Pos.Counts).H Z w) (h4:(slR Ar9 cr9 w64R x.v.series.Hist.Neg.Counts).H Z w) (hv:vs=[.bool (x.v.State.Some),iv x.v.State.Start,iv x.v.State.Time,iv x.v.State.Int_,u64v x.v.State.Re,u64v x.v.State.Im,iv x.v.State.Hist.Scale,u64v x.v.State.Hist.Zero,iv x.v.State.Hist.Pos.Offset,.slice Ar1 (x.v.State.Hist.Pos.Counts).length cr1,iv x.v.State.Hist.Neg.Offset,.slice Ar3 (x.v.State.Hist.Neg.Counts).length cr3,Str (x.v.series.Name),.slice Ar5 (x.v.series.Attrs).length cr5,iv x.v.series.Kind,iv x.v.series.Temp,.bool (x.v.series.Mono),iv x.v.series.Start,iv x.v.series.Time,iv x.v.series.Int_,u64v x.v.series.Re,u64v x.v.series.Im,iv x.v.series.Hist.Scale,u64v x.v.series.Hist.Zero,iv x.v.series.Hist.Pos.Offset,.slice Ar7 (x.v.series.Hist.Pos.Counts).length cr7,iv x.v.series.Hist.Neg.Offset,.slice Ar9 (x.v.series.Hist.Neg.Counts).length cr9,iv x.v.series.Flags,iv x.when]:=by exact rfl):T_table_slot_convert_kept_.rep.rel Z w vs x:=by subst hv;exact ⟨_,_,rfl,⟨_,_,rfl,⟨_,_,rfl,⟨rfl,trivial⟩,⟨_,_,rfl,⟨rfl,trivial⟩,⟨_,_,rfl,⟨rfl,trivial⟩,⟨_,_,rfl,⟨rfl,trivial⟩,⟨_,_,rfl,⟨rfl,trivial⟩,⟨_,_,rfl,⟨rfl,trivial⟩,⟨_,_,rfl,⟨rfl,trivial⟩,⟨_,_,rfl,⟨rfl,trivial⟩,⟨_,_,rfl,⟨_,_,rfl,⟨rfl,trivial⟩,⟨_,_,rfl,h0.1,h0.2.1,h0.2.2⟩⟩,⟨_,_,rfl,⟨rfl,trivial⟩,⟨_,_,rfl,h1.1,h1.2.1,h1.2.2⟩⟩⟩⟩⟩⟩⟩⟩⟩⟩⟩,⟨_,_,rfl,⟨rfl,trivial⟩,⟨_,_,rfl,⟨_,_,rfl,h2.1,h2.2.1,h2.2.2⟩,⟨_,_,rfl,⟨rfl,trivial⟩,⟨_,_,rfl,⟨rfl,trivial⟩,⟨_,_,rfl,⟨rfl,trivial⟩,⟨_,_,rfl,⟨rfl,trivial⟩,⟨_,_,rfl,⟨rfl,trivial⟩,⟨_,_,rfl,⟨rfl,trivial⟩,⟨_,_,rfl,⟨rfl,trivial⟩,⟨_,_,rfl,⟨rfl,trivial⟩,⟨_,_,rfl,⟨_,_,rfl,⟨rfl,trivial⟩,⟨_,_,rfl,⟨rfl,trivial⟩,⟨_,_,rfl,⟨_,_,rfl,⟨rfl,trivial⟩,⟨_,_,rfl,h3.1,h3.2.1,h3.2.2⟩⟩,⟨_,_,rfl,⟨rfl,trivial⟩,⟨_,_,rfl,h4.1,h4.2.1,h4.2.2⟩⟩⟩⟩⟩,⟨rfl,trivial⟩⟩⟩⟩⟩⟩⟩⟩⟩⟩⟩⟩⟩,⟨rfl,trivial⟩⟩
theorem T_table_slot_convert_kept_.relA {w:World} {x:T_table_slot_convert_kept_} {vs:List _root_.Go.Value} {Ar1:Option Addr} {cr1:Nat} {Ar3:Option Addr} {cr3:Nat} {Ar5:Option Addr} {cr5:Nat} {Ar7:Option Addr} {cr7:Nat} {Ar9:Option Addr} {cr9:Nat} {Z0:Nat→Prop} {Z1:Nat→Prop} {Z2:Nat→Prop} {Z3:Nat→Prop} {Z4:Nat→Prop} (h0:(slR Ar1 cr1 w64R x.v.State.Hist.Pos.Counts).H Z0 w) (h1:(slR Ar3 cr3 w64R x.v.State.Hist.Neg.Counts).H Z1 w) (h2:(slR Ar5 cr5 T_api_Pair.rep x.v.series.Attrs).H Z2 w) (h3:(slR Ar7 cr7 w64R x.v.series.Hist.Pos.Counts).H Z3 w) (h4:(slR Ar9 cr9 w64R x.v.series.Hist.Neg.Counts).H Z4 w) (hv:vs=[.bool (x.v.State.Some),iv x.v.State.Start,iv x.v.State.Time,iv x.v.State.Int_,u64v x.v.State.Re,u64v x.v.State.Im,iv x.v.State.Hist.Scale,u64v x.v.State.Hist.Zero,iv x.v.State.Hist.Pos.Offset,.slice Ar1 (x.v.State.Hist.Pos.Counts).length cr1,iv x.v.State.Hist.Neg.Offset,.slice Ar3 (x.v.State.Hist.Neg.Counts).length cr3,Str (x.v.series.Name),.slice Ar5 (x.v.series.Attrs).length cr5,iv x.v.series.Kind,iv x.v.series.Temp,.bool (x.v.series.Mono),iv x.v.series.Start,iv x.v.series.Time,iv x.v.series.Int_,u64v x.v.series.Re,u64v x.v.series.Im,iv x.v.series.Hist.Scale,u64v x.v.series.Hist.Zero,iv x.v.series.Hist.Pos.Offset,.slice Ar7 (x.v.series.Hist.Pos.Counts).length cr7,iv x.v.series.Hist.Neg.Offset,.slice Ar9 (x.v.series.Hist.Neg.Counts).length cr9,iv x.v.series.Flags,iv x.when]:=by exact rfl):T_table_slot_convert_kept_.rep.rel All w vs x:=T_table_slot_convert_kept_.relI (slR_all h0) (slR_all h1) (slR_all h2) (slR_all h3) (slR_all h4) hv
theorem T_todelta_value.relE {Z:Nat→Prop} {w:World} {vs:List _root_.Go.Value} {x:T_todelta_value} (h:T_todelta_value.rep.rel Z w vs x):∃ (Ar1:Option Addr) (cr1:Nat) (Ar3:Option Addr) (cr3:Nat),vs=[iv x.i,u64v x.re,u64v x.im,iv x.h.Scale,u64v x.h.Zero,iv x.h.Pos.Offset,.slice Ar1 (x.h.Pos.Counts).length cr1,iv x.h.Neg.Offset,.slice Ar3 (x.h.Neg.Counts).length cr3]∧(slR Ar1 cr1 w64R x.h.Pos.Counts).H Z w∧(slR Ar3 cr3 w64R x.h.Neg.Counts).H Z w:=by
 obtain ⟨_,_,rfl,⟨rfl,_⟩,⟨_,_,rfl,⟨rfl,_⟩,⟨_,_,rfl,⟨rfl,_⟩,⟨_,_,rfl,⟨rfl,_⟩,⟨_,_,rfl,⟨rfl,_⟩,⟨_,_,rfl,⟨_,_,rfl,⟨rfl,_⟩,⟨Ar1,cr1,rfl,p1,q1,s1⟩⟩,⟨_,_,rfl,⟨rfl,_⟩,⟨Ar3,cr3,rfl,p3,q3,s3⟩⟩⟩⟩⟩⟩⟩⟩:=h;exact ⟨Ar1,cr1,Ar3,cr3,rfl,⟨p1,q1,s1⟩,⟨p3,q3,s3⟩⟩
theorem T_todelta_value.relI {Z:Nat→Prop} {w:World} {x:T_todelta_value} {vs:List _root_.Go.Value} {Ar1:Option Addr} {cr1:Nat} {Ar3:Option Addr} {cr3:Nat} (h0:(slR Ar1 cr1 w64R x.h.Pos.Counts).H Z w) (h1:(slR Ar3 cr3 w64R x.h.Neg.Counts).H Z w) (hv:vs=[iv x.i,u64v x.re,u64v x.im,iv x.h.Scale,u64v x.h.Zero,iv x.h.Pos.Offset,.slice Ar1 (x.h.Pos.Counts).length cr1,iv x.h.Neg.Offset,.slice Ar3 (x.h.Neg.Counts).length cr3]:=by exact rfl):T_todelta_value.rep.rel Z w vs x:=by subst hv;exact ⟨_,_,rfl,⟨rfl,trivial⟩,⟨_,_,rfl,⟨rfl,trivial⟩,⟨_,_,rfl,⟨rfl,trivial⟩,⟨_,_,rfl,⟨rfl,trivial⟩,⟨_,_,rfl,⟨rfl,trivial⟩,⟨_,_,rfl,⟨_,_,rfl,⟨rfl,trivial⟩,⟨_,_,rfl,h0.1,h0.2.1,h0.2.2⟩⟩,⟨_,_,rfl,⟨rfl,trivial⟩,⟨_,_,rfl,h1.1,h1.2.1,h1.2.2⟩⟩⟩⟩⟩⟩⟩⟩
theorem T_todelta_value.relA {w:World} {x:T_todelta_value} {vs:List _root_.Go.Value} {Ar1:Option Addr} {cr1:Nat} {Ar3:Option Addr} {cr3:Nat} {Z0:Nat→Prop} {Z1:Nat→Prop} (h0:(slR Ar1 cr1 w64R x.h.Pos.Counts).H Z0 w) (h1:(slR Ar3 cr3 w64R x.h.Neg.Counts).H Z1 w) (hv:vs=[iv x.i,u64v x.re,u64v x.im,iv x.h.Scale,u64v x.h.Zero,iv x.h.Pos.Offset,.slice Ar1 (x.h.Pos.Counts).length cr1,iv x.h.Neg.Offset,.slice Ar3 (x.h.Neg.Counts).length cr3]:=by exact rfl):T_todelta_value.rep.rel All w vs x:=T_todelta_value.relI (slR_all h0) (slR_all h1) hv
theorem el3:ElOk prog 3 1 8:=elOk_of (by kernel_rfl) (by decide)
theorem el5:ElOk prog 5 1 1:=elOk_of (by kernel_rfl) (by decide)
theorem el31:ElOk prog 31 1 8:=elOk_of (by kernel_rfl) (by decide)
theorem el116:ElOk prog 116 2 32:=elOk_of (by kernel_rfl) (by decide)
theorem el273:ElOk prog 273 5 72:=elOk_of (by kernel_rfl) (by decide)
set_option maxRecDepth 20000 in
theorem clone_107 {Z0:Nat→Prop} (w:World) (A:Option Addr) (c:Nat) (l:List UInt8) {r:List UInt8} (h:(slR A c byteR l).H Z0 w) (Y:appL [] l=some r) :
 Calls prog 107 #[.slice A l.length c] w λx w'=>∃ A' c',x=.returned (.slice A' r.length c')∧Hp Z0 No w w' [ownR 5 A' c' byteR r]:=by
 have D0:=Hp.nil Z0 No w;have D1:=D0.know (slR A c byteR l) (λ_ h=>h) (D0.in0 Calm.nil h);refine Rn.enter func107 rfl rfl (nbl rfl) ?_;refine Rn.seq (Rn.reg (Rn.v rfl rfl rfl rfl (V.as rfl) (Rn.regEnd (Rn.seq (Rn.seq (Rn.reg (Rn.v rfl rfl rfl rfl (V.mv rfl) (Rn.v rfl rfl rfl rfl (V.eqlV U51 rfl rfl) (Rn.regEnd ?_)))))))))
 cases A with
 | none=>
  obtain rfl:=clone_get h;obtain ⟨_,rfl⟩:=appE Y;refine Rn.condT rfl (Rn.seq (Rn.reg (Rn.v rfl rfl rfl rfl (V.as rfl) (Rn.regEnd ?_))));refine Rn.retG1 func107 rfl (rvT rfl) ?_;exact ⟨none,0,rfl,(D0.addNil 5 byteR)⟩
 | some a=>
  refine Rn.condF rfl (Rn.skip (Rn.seq (Rn.reg ?_)));refine Rn.bslS (ps:=[]) (us:=[]) rfl rfl rfl U51 el5 rfl rfl rfl rfl (by simp) (by decide) ?_;intro b2 w2 hb2 m2 e2;have D2:=D1.addLit (rep:=byteR) (xs:=([]:List UInt8)) (vss:=[]) hb2 e2 m2 rfl rfl rfl rels0;refine Rn.v rfl rfl rfl rfl (V.mv rfl) (Rn.appH D2 1 rfl Y rfl rfl rfl U51 el5 rfl rfl rfl rfl (D2.src 0 rfl) ?_);intro A3 c3 w3 D3;refine Rn.v rfl rfl rfl rfl (V.as rfl) (Rn.regEnd ?_);refine Rn.retG1 func107 rfl (rvT rfl) ?_;exact ⟨A3,c3,rfl,D3.pick [1] rfl (by decide)⟩
set_option maxRecDepth 20000 in
theorem clone_146 {Z0:Nat→Prop} (w:World) (A:Option Addr) (c:Nat) (l:List T_api_Pair) {r:List T_api_Pair} (h:(slR A c T_api_Pair.rep l).H Z0 w) (Y:appL [] l=some r) :
 Calls prog 146 #[.slice A l.length c] w λx w'=>∃ A' c',x=.returned (.slice A' r.length c')∧Hp Z0 No w w' [ownR 116 A' c' T_api_Pair.rep r]:=by
 have D0:=Hp.nil Z0 No w;have D1:=D0.know (slR A c T_api_Pair.rep l) (λ_ h=>h) (D0.in0 Calm.nil h);refine Rn.enter func146 rfl rfl (nbl rfl) ?_;refine Rn.seq (Rn.reg (Rn.v rfl rfl rfl rfl (V.as rfl) (Rn.regEnd (Rn.seq (Rn.seq (Rn.reg (Rn.v rfl rfl rfl rfl (V.mv rfl) (Rn.v rfl rfl rfl rfl (V.eqlV U30 rfl rfl) (Rn.regEnd ?_)))))))))
 cases A with
 | none=>
  obtain rfl:=clone_get h;obtain ⟨_,rfl⟩:=appE Y;refine Rn.condT rfl (Rn.seq (Rn.reg (Rn.v rfl rfl rfl rfl (V.as rfl) (Rn.regEnd ?_))));refine Rn.retG1 func146 rfl (rvT rfl) ?_;exact ⟨none,0,rfl,(D0.addNil 116 T_api_Pair.rep)⟩
 | some a=>
  refine Rn.condF rfl (Rn.skip (Rn.seq (Rn.reg ?_)));refine Rn.bslS (ps:=[]) (us:=[]) rfl rfl rfl U30 el116 rfl rfl rfl rfl (by simp) (by decide) ?_;intro b2 w2 hb2 m2 e2;have D2:=D1.addLit (rep:=T_api_Pair.rep) (xs:=([]:List T_api_Pair)) (vss:=[]) hb2 e2 m2 rfl rfl rfl rels0;refine Rn.v rfl rfl rfl rfl (V.mv rfl) (Rn.appH D2 1 rfl Y rfl rfl rfl U30 el116 rfl rfl rfl rfl (D2.src 0 rfl) ?_);intro A3 c3 w3 D3;refine Rn.v rfl rfl rfl rfl (V.as rfl) (Rn.regEnd ?_);refine Rn.retG1 func146 rfl (rvT rfl) ?_;exact ⟨A3,c3,rfl,D3.pick [1] rfl (by decide)⟩
set_option maxRecDepth 20000 in
theorem clone_180 {Z0:Nat→Prop} (w:World) (A:Option Addr) (c:Nat) (l:List UInt64) {r:List UInt64} (h:(slR A c w64R l).H Z0 w) (Y:appL [] l=some r) :
 Calls prog 180 #[.slice A l.length c] w λx w'=>∃ A' c',x=.returned (.slice A' r.length c')∧Hp Z0 No w w' [ownR 31 A' c' w64R r]:=by
 have D0:=Hp.nil Z0 No w;have D1:=D0.know (slR A c w64R l) (λ_ h=>h) (D0.in0 Calm.nil h);refine Rn.enter func180 rfl rfl (nbl rfl) ?_;refine Rn.seq (Rn.reg (Rn.v rfl rfl rfl rfl (V.as rfl) (Rn.regEnd (Rn.seq (Rn.seq (Rn.reg (Rn.v rfl rfl rfl rfl (V.mv rfl) (Rn.v rfl rfl rfl rfl (V.eqlV U32 rfl rfl) (Rn.regEnd ?_)))))))))
 cases A with
 | none=>
  obtain rfl:=clone_get h;obtain ⟨_,rfl⟩:=appE Y;refine Rn.condT rfl (Rn.seq (Rn.reg (Rn.v rfl rfl rfl rfl (V.as rfl) (Rn.regEnd ?_))));refine Rn.retG1 func180 rfl (rvT rfl) ?_;exact ⟨none,0,rfl,(D0.addNil 31 w64R)⟩
 | some a=>
  refine Rn.condF rfl (Rn.skip (Rn.seq (Rn.reg ?_)));refine Rn.bslS (ps:=[]) (us:=[]) rfl rfl rfl U32 el31 rfl rfl rfl rfl (by simp) (by decide) ?_;intro b2 w2 hb2 m2 e2;have D2:=D1.addLit (rep:=w64R) (xs:=([]:List UInt64)) (vss:=[]) hb2 e2 m2 rfl rfl rfl rels0;refine Rn.v rfl rfl rfl rfl (V.mv rfl) (Rn.appH D2 1 rfl Y rfl rfl rfl U32 el31 rfl rfl rfl rfl (D2.src 0 rfl) ?_);intro A3 c3 w3 D3;refine Rn.v rfl rfl rfl rfl (V.as rfl) (Rn.regEnd ?_);refine Rn.retG1 func180 rfl (rvT rfl) ?_;exact ⟨A3,c3,rfl,D3.pick [1] rfl (by decide)⟩
set_option maxRecDepth 20000 in
theorem mclone_137 {Z0:Nat→Prop} (w:World) (b:Nat) (ps:Kv T_table_slot_convert_kept_) (h:(mapR b vA T_table_slot_convert_kept_.rep ps).H Z0 w) :
 Calls prog 137 #[.map (some b)] w λx w'=>∃ b',x=.returned (.map (some b'))∧Hp Z0 No w w' [mapR b' vA T_table_slot_convert_kept_.rep ps]:=by
 obtain ⟨w1,hr,hE,hH⟩:=mapClone_run (P:=prog) (gg:=185) (t:=130) h;refine Rn.enter func137 rfl rfl (nbl rfl) ?_;refine Rn.seq (Rn.reg (Rn.v rfl rfl rfl rfl (V.as rfl) (Rn.regEnd (Rn.seq (Rn.seq (Rn.reg (Rn.v rfl rfl rfl rfl (V.mv rfl) (Rn.v rfl rfl rfl rfl (V.eqlMN U130 rfl rfl) (Rn.regEnd ?_)))))))));refine Rn.condF rfl (Rn.skip (Rn.seq (Rn.reg ?_)));refine Rn.v rfl rfl rfl rfl (V.mv rfl) (Rn.v rfl rfl rfl rfl (V.mkI U130 (λ_ h=>by cases h) rfl) ?_);refine Rn.v rfl rfl rfl rfl (V.externW (xs:=[_]) func185 (by kernel_rfl) (by kernel_rfl) (by kernel_rfl) (by kernel_rfl) rfl hr) ?_;refine Rn.v rfl rfl rfl rfl (V.tasM U130 rfl) (Rn.v rfl rfl rfl rfl (V.as rfl) (Rn.regEnd ?_));refine Rn.retG1 func137 rfl (rvT rfl) ?_;exact ⟨_,rfl,(Hp.nil Z0 No w).add _ hE (λx hx=>by cases hx;exact Nat.le_refl _) λZ hZ=>hH Z λx hx hlt=>hZ x (zo0 Calm.nil hx) hlt⟩
set_option maxRecDepth 20000 in
theorem bld_copy (b:Nat) (p:Option Addr) (v:Value) (w:World) (hp:p=none∨p=some ⟨b,0,none⟩) (hB:Blk w b 140 [.pointer p,v]) :
 Calls prog 147 #[.pointer (some ⟨b,0,none⟩)] w λx w'=>x=.returned (.tuple #[])∧Blk w' b 140 [.pointer (some ⟨b,0,none⟩),v]∧Fr (λx=>x=b) w w':=by
 have hsz:(prog.info? 140).map (·.size)=some 2:=by kernel_rfl
 obtain ⟨j,hj,hjs0⟩:=Option.map_eq_some_iff.1 hsz
 have hjs:j.size≠0:=by rw [hjs0];decide
 refine Rn.enter func147 rfl rfl (nbl rfl) ?_;refine Rn.seq (Rn.reg (Rn.v rfl rfl rfl rfl (V.mv rfl) (Rn.v rfl rfl rfl rfl (V.nil rfl) (Rn.v rfl rfl rfl rfl (V.fa U140 rfl O138 rfl rfl) (Rn.v rfl rfl rfl rfl (V.ldB V138 rfl hB rfl) (Rn.v rfl rfl rfl rfl (V.eqlP U138 rfl rfl) (Rn.regEnd ?_)))))))
 rcases hp with rfl|rfl
 refine Rn.condT rfl (Rn.reg (Rn.v rfl rfl rfl rfl (V.mv rfl) (Rn.v rfl rfl rfl rfl (V.mv rfl) (Rn.v rfl rfl rfl rfl (V.toUns U138 U239 hj hjs rfl hB (by simp)) (Rn.v rfl rfl rfl rfl (V.noEsc func193 (by kernel_rfl) (by kernel_rfl) (by kernel_rfl) (by kernel_rfl) rfl) (Rn.v rfl rfl rfl rfl (V.fromUns U239 U138 hj rfl hB (by kernel_rfl)) (Rn.v rfl rfl rfl rfl (V.nil rfl) (Rn.v rfl rfl rfl rfl (V.fa U140 rfl O138 rfl rfl) (Rn.st rfl rfl O138 rfl rfl rfl rfl (by first|exact ones rfl|(simp [Value.oneCell'];done)) hB (by first|exact nbl rfl|(simp;done)) ?_)))))))));intro w1 m1 x1;have e1:Fr (λx=>x=b) w w1:=((Fr.refl _ _)).trans' x1 (λx hx=>by first | exact .inl hx | exact .inr (by subst hx;omega));refine Rn.regEnd ?_;refine Rn.end0 func147 rfl ?_;exact ⟨rfl,m1,x1⟩;refine Rn.condF rfl (Rn.seq (Rn.reg (Rn.v rfl rfl rfl rfl (V.mv rfl) (Rn.v rfl rfl rfl rfl (V.nil rfl) (Rn.v rfl rfl rfl rfl (V.fa U140 rfl O138 rfl rfl) (Rn.v rfl rfl rfl rfl (V.ldB V138 rfl hB rfl) (Rn.v rfl rfl rfl rfl (V.mv rfl) (Rn.v rfl rfl rfl rfl (V.neqSame U138 hj rfl rfl) (Rn.regEnd (Rn.condF rfl (Rn.skip ?_)))))))))));refine Rn.end0 func147 rfl ?_;exact ⟨rfl,hB,Fr.refl _ _⟩
set_option maxRecDepth 20000 in
theorem bld_ws {Z0:Nat→Prop} (w:World) (b:Nat) (A:Option Addr) (c:Nat) (l s:List UInt8) {z:List UInt8} (hL:Lent Z0 w [bldR 140 5 b A c l]) (hz:appL l s=some z) :
 Calls prog 83 #[.pointer (some ⟨b,0,none⟩),Str s] w λx w'=>∃ A' c',x=.returned (.tuple #[.int .i64 s.length,.nilIface])∧Hp Z0 (LS [bldR 140 5 b A c l]) w w' [bldR 140 5 b A' c' z]:=by
 obtain ⟨hle,rfl⟩:=appE hz;have D0:=hL.start;obtain ⟨p,hp,hB,hO,hne,hnil⟩:=D0.get 0 rfl;refine Rn.enter func83 rfl rfl (nbl rfl) ?_;refine Rn.seq (Rn.reg (Rn.v rfl rfl rfl rfl (V.as rfl) (Rn.v rfl rfl rfl rfl (V.as rfl) (Rn.regEnd (Rn.seq (Rn.reg (Rn.v rfl rfl rfl rfl (V.mv rfl) (Rn.cl (cK func147) rfl rfl rfl rfl (bld_copy b p _ _ hp hB) ?_))))))));rintro _ w1 ⟨rfl,mB1,x1⟩;have e1:Fr (λx=>x=b∨ob A x) w w1:=((Fr.refl _ _)).trans' x1 (λx hx=>by first | exact .inl (.inl hx) | exact .inl (.inr hx));refine ⟨_,rfl,?_⟩;refine Rn.regEnd (Rn.seq (Rn.reg (Rn.v rfl rfl rfl rfl (V.mv rfl) (Rn.v rfl rfl rfl rfl (V.mv rfl) (Rn.v rfl rfl rfl rfl (V.nil rfl) (Rn.v rfl rfl rfl rfl (V.fa U140 rfl O51 rfl rfl) (Rn.v rfl rfl rfl rfl (V.ldB V51 rfl mB1 rfl) (Rn.v rfl rfl rfl rfl (V.mv rfl) ?_))))))));have hO2:=hO.fr x1 (λ_ h=>h.elim) (λx hx hh=>hne (hh▸hx));refine Rn.appS rfl rfl rfl U51 U9 el5 rfl rfl hO2 hle ?_;intro A2 c2 w2 o2 x2 q2 n2;have e2:Fr (λx=>x=b∨ob A x) w w2:=(e1).trans' x2 (λx hx=>by first | exact .inl (.inl hx) | exact .inl (.inr hx));refine Rn.v rfl rfl rfl rfl (V.nil rfl) (Rn.v rfl rfl rfl rfl (V.fa U140 rfl O51 rfl rfl) (Rn.st rfl rfl O51 rfl rfl rfl rfl (by first|exact ones rfl|(simp [Value.oneCell'];done)) (mB1.fr x2 hne) (by first|exact nbl rfl|(simp;done)) ?_));intro w3 m3 x3;have e3:Fr (λx=>x=b∨ob A x) w w3:=(e2).trans' x3 (λx hx=>by first | exact .inl (.inl hx) | exact .inl (.inr hx));refine Rn.regEnd (Rn.seq (Rn.reg (Rn.v rfl rfl rfl rfl (V.mv rfl) (Rn.v rfl rfl rfl rfl (V.lenS U9 rfl) (Rn.v rfl rfl rfl rfl (V.as rfl) (Rn.v rfl rfl rfl rfl (V.as rfl) (Rn.regEnd ?_)))))));refine Rn.ret2 func83 rfl rfl rfl ?_;have hsz:=x1.size;have hlt:=mB1.lt
 have hnb:¬ob A2 b:=λhh=>by rcases q2 b hh with h | h;exact hne h;omega
 exact ⟨A2,c2,rfl,D0.upd 0 (bldR 140 5 b A2 c2 (l++s)) rfl (((x1.mono λy hy=>.inl hy).trans (x2.mono λy hy=>.inr hy)).trans (x3.mono λy hy=>.inl hy)) (λx hx=>by rcases hx with hx|hx;exact .inl (.inl hx);rcases q2 x hx with h|h;exact .inl (.inr h);exact .inr (by omega)) (λ_ _ _=>⟨_,.inr rfl,m3,o2.fr x3 (λ_ h=>h.elim) (λx hx hh=>hnb (hh▸hx)),hnb,λh=>n2 h (hnil (List.append_eq_nil_iff.1 h).1)⟩)⟩
set_option maxRecDepth 20000 in
theorem bld_str {Z0:Nat→Prop} (w:World) (b:Nat) (A:Option Addr) (c:Nat) (l:List UInt8) (hL:Lent Z0 w [bldR 140 5 b A c l]) :
 Calls prog 85 #[.pointer (some ⟨b,0,none⟩)] w λx w'=>x=.returned (Str l)∧Hp Z0 (LS [bldR 140 5 b A c l]) w w' []:=by
 have D0:=hL.start.ext (Ext.drew w);obtain ⟨p,hp,hB,hO,hne,hnil⟩:=D0.get 0 rfl;refine Rn.enter func85 rfl rfl (nbl rfl) ?_;refine Rn.seq (Rn.reg (Rn.v rfl rfl rfl rfl (V.as rfl) (Rn.regEnd (Rn.seq ?_))));refine Rn.draw (λw'=>Blk w' b 140 [.pointer p,.slice A l.length c]) rfl hB ?_;refine RH.take 0 (by kernel_rfl) rfl rfl rfl rfl (λw' hDr=>V.mv rfl) ?_;refine RH.take 1 (by kernel_rfl) rfl rfl rfl rfl (λw' hDr=>V.nil rfl) ?_;refine RH.take 2 (by kernel_rfl) rfl rfl rfl rfl (λw' hDr=>V.fa U140 rfl O51 rfl rfl) ?_;refine RH.take 3 (by kernel_rfl) rfl rfl rfl rfl (λw' hDr=>V.ldB V51 rfl hDr rfl) ?_;refine RH.take 4 (by kernel_rfl) rfl rfl rfl rfl (λw' hDr=>uData rfl hO hnil w') ?_;refine RH.take 5 (by kernel_rfl) rfl rfl rfl rfl (λw' hDr=>V.mv rfl) ?_;refine RH.take 6 (by kernel_rfl) rfl rfl rfl rfl (λw' hDr=>V.nil rfl) ?_;refine RH.take 7 (by kernel_rfl) rfl rfl rfl rfl (λw' hDr=>V.fa U140 rfl O51 rfl rfl) ?_;refine RH.take 8 (by kernel_rfl) rfl rfl rfl rfl (λw' hDr=>V.ldB V51 rfl hDr rfl) ?_;refine RH.take 9 (by kernel_rfl) rfl rfl rfl rfl (λw' hDr=>V.lenV U51 rfl) ?_;obtain ⟨w2,hr,hF⟩:=uStr_run (P:=prog) (ty:=9) (pt:=217) (it:=3) U217 (by kernel_rfl:prog.cellsOf 5=1) hO hnil;refine RH.one 10 (by kernel_rfl) rfl rfl rfl rfl (V.uStr hr rfl rfl) (hB.fr hF hne) ?_;refine RH.take 11 (by kernel_rfl) rfl rfl rfl rfl (λw' hDr=>V.as rfl) ?_;refine RH.doneP (by kernel_rfl) ?_;refine Rn.retG1 func85 rfl (rvT rfl) ?_;exact ⟨rfl,D0.end1 (hF.mono λy hy=>.inr hy)⟩
theorem nbits {z:UInt64} (h:nanB z):m_num_bits z=some 9221120237041090561:=by
 unfold m_num_bits m_num_Canon m_num_Odd;rw [decide_eq_true (nan_and h)]
 rfl
theorem fsame {z x:UInt64} (h:sameF z x):m_num_bits z=m_num_bits x:=by
 rcases h with rfl|⟨h1,h2⟩
 ·rfl
 ·exact (nbits h1).trans (nbits h2).symm
theorem csame {z z' x x':UInt64} (h:sameF z x) (h':sameF z' x'):m_num_parts (z,z')=m_num_parts (x,x'):=by
 unfold m_num_parts;rw [fsame h,fsame h']
theorem eq116 (a b:T_api_Pair) (w:World):(Op.equalIn 10000 116 (.agg [Str (a.Key),Str (a.Val)].toArray) (.agg [Str (b.Key),Str (b.Val)].toArray)).run prog w=.ok (decide (a=b)) w:=by
 refine eqF_top (p:=a=b) (by kernel_rfl) U116 Tryz.stoodInHeld116 (eqF_cons rfl V9 rfl rfl (eqS w a.Key b.Key U9) (eqF_cons rfl V9 rfl rfl (eqS w a.Val b.Val U9) eqF_nil)) ?_
 cases a;cases b;simp only [T_api_Pair.mk.injEq,and_true]
theorem m_convert_Good_sim {x0:T_api_Config} {r:Bool} (Y:m_convert_Good x0=some r)  :
 Calls prog 15 #[.agg [iv x0.Out,iv x0.Series,iv x0.Buckets,iv x0.Points,iv x0.Bytes,iv x0.Disk,iv x0.Window].toArray] w λx w'=>x=.returned (.bool (r))∧Hp Z0 No w w' []:=by
 have D0:=Hp.nil Z0 No w;have hc0:=Calm.nil;refine eg func15 2 ?_
 refine Rn.bx D0 λb1 w1 D3=>?_
 replace D3:=D3.nb;refine gg 5 rfl (Rn.q rfl (V.ldB V3 rfl (D3.get 0 rfl) rfl) (gg 2 rfl ?_));refine Rn.cutR [8,9,10,11,12,13,14,15,16,17,18,19,20,21,22,23,24,25,26,27,28] [(1,pt b1 0),(10,.bool (decide ((x0.Out≥0)∧(x0.Out≤2))))] (λK4=>?_) ?_
 ·refine Rn.partD (t:=6) rfl (λh5=>?_) (λh5=>?_)
  ·refine gg 1 rfl (Rn.q rfl (V.ldB V3 rfl (D3.get 0 rfl) rfl) (gg 2 rfl ?_));exact K4 _ sA
  refine gg 4 rfl ?_;exact K4 _ sA
 refine gg 1 rfl ?_;refine Rn.cutR [13,14,15,16,17,18,19,20,21,22,23,24,25,26,27,28] [(1,pt b1 0),(15,.bool (decide (((x0.Out≥0)∧(x0.Out≤2))∧(x0.Series≥1))))] (λK6=>?_) ?_
 ·refine Rn.partD (t:=11) rfl (λh7=>?_) (λh7=>?_)
  ·refine gg 1 rfl (Rn.q rfl (V.ldB V3 rfl (D3.get 0 rfl) rfl) (gg 2 rfl ?_));exact K6 _ sA
  refine gg 4 rfl ?_;exact K6 _ sA
 refine gg 1 rfl ?_;refine Rn.cutR [18,19,20,21,22,23,24,25,26,27,28] [(1,pt b1 0),(20,.bool (decide ((((x0.Out≥0)∧(x0.Out≤2))∧(x0.Series≥1))∧(x0.Series≤16))))] (λK8=>?_) ?_
 ·refine Rn.partD (t:=16) rfl (λh9=>?_) (λh9=>?_)
  ·refine gg 1 rfl (Rn.q rfl (V.ldB V3 rfl (D3.get 0 rfl) rfl) (gg 2 rfl ?_));exact K8 _ sA
  refine gg 4 rfl ?_;exact K8 _ sA
 refine gg 1 rfl ?_;refine Rn.cutR [23,24,25,26,27,28] [(1,pt b1 0),(25,.bool (decide (((((x0.Out≥0)∧(x0.Out≤2))∧(x0.Series≥1))∧(x0.Series≤16))∧(x0.Buckets≥1))))] (λK10=>?_) ?_
 ·refine Rn.partD (t:=21) rfl (λh11=>?_) (λh11=>?_)
  ·refine gg 1 rfl (Rn.q rfl (V.ldB V3 rfl (D3.get 0 rfl) rfl) (gg 2 rfl ?_));exact K10 _ sA
  refine gg 4 rfl ?_;exact K10 _ sA
 refine gg 1 rfl ?_;refine Rn.cutR [28] [(30,.bool (decide ((((((x0.Out≥0)∧(x0.Out≤2))∧(x0.Series≥1))∧(x0.Series≤16))∧(x0.Buckets≥1))∧(x0.Buckets≤160))))] (λK12=>?_) ?_
 ·refine Rn.partD (t:=26) rfl (λh13=>?_) (λh13=>?_)
  ·refine gg 1 rfl (Rn.q rfl (V.ldB V3 rfl (D3.get 0 rfl) rfl) (gg 2 rfl ?_));exact K12 _ sA
  refine gg 4 rfl ?_;exact K12 _ sA
 refine gg 2 rfl ?_
 cases Y
 exact Rn.R1 func15 ⟨rfl,D3.pk []⟩
theorem m_table_New_convert_kept_sim {x0:Int} {r:T_table_Table_convert_kept_} (Y:m_table_New_convert_kept x0=some r)  :
 Calls prog 27 #[iv x0] w λx w'=>∃ F_0 b_0,x=.returned (pt b_0 0)∧Hp Z0 No w w' [T_table_Table_convert_kept_.obj F_0 b_0 r]:=by
 have D0:=Hp.nil Z0 No w;have hc0:=Calm.nil;refine eg func27 7 ?_;refine Rn.q rfl (V.maxi rfl rfl) (Rn.mkMH vA T_table_slot_convert_kept_.rep D0 rfl rfl rfl ?_);intro b1 w1 D1;refine Rn.q rfl (V.bldS (cs:=[_,_,_]) st132 rfl rfl) (Rn.bx D1 λb3 w3 D5=>?_);replace D5:=D5.nb;refine gg 2 rfl ?_;have D7:=D5.cu [] [1,0];obtain ⟨F6,D6⟩:=D7.fold (T_table_Table_convert_kept_.sh b3 (⟨max x0 0,0,([]:Kv T_table_slot_convert_kept_)⟩:T_table_Table_convert_kept_)) ⟨b1,rfl⟩
 cases Y
 exact Rn.R1 func27 ⟨F6,b3,rfl,D6.pk [0]⟩
theorem m_convert_New_sim {x0:T_api_Config} {r:(Option T_convert_Converter)} (Y:m_convert_New x0=some r)  :
 Calls prog 10 #[.agg [iv x0.Out,iv x0.Series,iv x0.Buckets,iv x0.Points,iv x0.Bytes,iv x0.Disk,iv x0.Window].toArray] w λx w'=>∃ F_0 b_0,x=.returned (.pointer (optP b_0 r))∧Hp Z0 No w w' [optR r (λz=>T_convert_Converter.obj F_0 b_0 z)]:=by
 have D0:=Hp.nil Z0 No w;have hc0:=Calm.nil;refine eg func10 2 ?_
 refine Rn.bx D0 λb1 w1 D3=>?_
 replace D3:=D3.nb;refine gg 5 rfl (Rn.q rfl (V.ldBA [_,_,_,_,_,_,_] V23 O23 rfl (D3.get 0 rfl) rfl rfl) ?_);obtain ⟨p4,e4,Y⟩:=bindE Y
 refine Rn.c0 (cK func15) (m_convert_Good_sim (Z0:=All) e4  :) D3 λw4 _ D5=>?_
 refine Rn.q rfl (V.notB rfl) (gg 1 rfl ?_);refine bS Y 4 2 (λh6 Y=>?_) (λh6 Y=>?_)
 ·have D8:=D5.addNone (λz=>T_convert_Converter.obj No 0 z)
  cases Y
  exact Rn.R1 func10 ⟨No,0,rfl,D8.pk [1]⟩
 refine Rn.drawH rfl D5 ?_;intro w9 D9;refine RH.tk 0 rfl (λw' hDr=>V.ldBA [_,_,_,_,_,_,_] V23 O23 rfl ((D9.ext hDr).get 0 rfl) rfl rfl) ?_;refine dq [1] ?_;refine RH.ho 2 rfl (V.ldB V3 rfl (D9.get 0 rfl) rfl) ?_;obtain ⟨p10,e10,Y⟩:=bindE Y;refine RH.cq (cK func27) 3 (m_table_New_convert_kept_sim (Z0:=D9.Z) e10  :) ?_;rintro _ w10 ⟨F10_0,b10_0,rfl,Q10⟩;refine ⟨_,rfl,((Ext.refl _).trans Q10.fr),?_⟩;have D12:=D9.callZ Q10;refine RH.ho 4 rfl (V.bldS (cs:=[_,_,_,_,_,_,_,_]) st74 rfl rfl) ?_;refine RH.box 5 (by kernel_rfl) rfl rfl rfl rfl rfl ?_;intro b13 w13 hb13 m13 e13
 have hfr13:w9.heap.size≤b13:=by have hh:=(((Ext.refl _).trans Q10.fr):Ext w9 w10).size;omega
 have D15:=(D12.addBox hb13 e13 m13).nb;refine ⟨(((Ext.refl _).trans Q10.fr).trans e13),?_⟩;refine dq [6] ?_;refine RH.dn ?_;have D17:=D15.cu [0] [2,1];obtain ⟨F16,D16⟩:=D17.fold (T_convert_Converter.sh b13 (⟨x0,p10⟩:T_convert_Converter)) ⟨F10_0,b10_0,rfl⟩;have D18:=D16.toSome (R:=(λz=>T_convert_Converter.obj F16 b13 z)) 1 rfl
 cases Y
 exact Rn.R1 func10 ⟨F16,b13,rfl,D18.pk [1]⟩
theorem m_label_small_sim {x0:UInt8} {r:Bool} (Y:m_label_small x0=some r)  :
 Calls prog 167 #[u8v x0] w λx w'=>x=.returned (.bool (r))∧Hp Z0 No w w' []:=by
 have D0:=Hp.nil Z0 No w;have hc0:=Calm.nil;refine eg func167 7 ?_;refine Rn.q rfl (V.geq rfl rfl) (gg 1 rfl ?_);refine Rn.cutR [6] [(8,.bool (decide ((((x0).toNat:Int)≥97)∧(((x0).toNat:Int)≤122))))] (λK1=>?_) ?_
 ·refine Rn.partD (t:=5) rfl (λh2=>?_) (λh2=>?_)
  ·refine gg 1 rfl (Rn.q rfl (V.leq rfl rfl) (gg 1 rfl ?_));exact K1 _ sA
  refine gg 3 rfl ?_;exact K1 _ sA
 refine gg 2 rfl ?_
 cases Y
 exact Rn.R1 func167 ⟨rfl,D0.pk []⟩
theorem m_label_isName_sim {x0:(List UInt8)} {r:Bool} (Y:m_label_isName x0=some r)  :
 Calls prog 114 #[Str (x0)] w λx w'=>x=.returned (.bool (r))∧Hp Z0 No w w' []:=by
 have D0:=Hp.nil Z0 No w;have hc0:=Calm.nil;refine eg func114 8 ?_;refine Rn.q rfl (V.eqlS rfl rfl) (gg 1 rfl ?_);refine Rn.cutR [7,8,9,10,11,12] [(0,Str (x0)),(11,.bool (decide ((x0=([]:List UInt8))∨((x0.length:Int)>32))))] (λK1=>?_) ?_
 ·refine Rn.partD (t:=7) rfl (λh2=>?_) (λh2=>?_)
  ·refine gg 4 rfl ?_;exact K1 _ sA
  refine gg 1 rfl (Rn.q rfl (V.lenS U9 rfl) (gg 2 rfl ?_));exact K1 _ sA
 refine gg 1 rfl ?_;refine Rn.jR D0 Y (G:=Bool) [] (λg=>[(0,Str (x0)),(17,.bool (g))]) (λg=>[]) (λj g=>j g) ?_ ?_
 ·rintro y3 w4 D4 Y
  try dsimp only at Y
  refine gg 1 rfl ?_;refine bS Y 4 5 (λh5 Y=>?_) (λh5 Y=>?_)
  ·cases Y
   exact Rn.R1 func114 ⟨rfl,D4.pk []⟩
  obtain ⟨z6,e6,Y⟩:=bindE Y;refine Rn.s2bH D4 e6 rfl rfl rfl U9 U51 U5 rfl ?_;intro A6 c6 w6 D6;refine Rn.q rfl (V.lenV U51 rfl) (gg 2 rfl ?_);refine Rn.jG D0 Y (G:=Unit) (λg=>[]) (λg=>[]) (λj g=>j ()) ?_ ?_
  ·rintro _ w8 D8 Y
   try dsimp only at Y
   refine gg 4 rfl ?_
   cases Y
   exact Rn.R1 func114 ⟨rfl,D8.pk []⟩
  intro j2 Y K2;refine gg 1 rfl ?_;refine Rn.lF D6 [0] (G:=Int) (λg=>[(19,.slice A6 (z6).length c6),(20,iv (z6.length:Int)),(21,iv g)]) (λg=>[_]) (λn g=>m_label_isName_L1 z6 j2 n g) fuel 0 sA (D6.pk [0]) Y ?_;clear Y;rintro m10 y9 w10 D10 Y N10;replace Y:m_label_isName_L1 z6 j2 (m10+1) y9=some r:=Y;rw [m_label_isName_L1] at Y;refine gg 5 rfl ?_;refine bD Y 5 1 (λh11 Y=>?_) (λh11 Y=>?_)
  ·obtain ⟨z12,e12,Y⟩:=bindE Y;refine Rn.ixH D10 0 rfl e12 rfl rfl rfl U51 O5 rfl rfl rfl rfl ?_;rintro b12 o12 vs12 ⟨rfl,_⟩ D12;refine Rn.q rfl (V.ldR0 V5 rfl (D12.get 1 rfl).2 rfl) (gg 5 rfl ?_);obtain ⟨p14,e14,Y⟩:=bindE Y
   refine Rn.c0 (cK func167) (m_label_small_sim (Z0:=All) e14  :) D12 λw14 _ D15=>?_
   refine Rn.q rfl (V.notB rfl) (gg 1 rfl ?_);refine Rn.cutR [11,12,13,14,15,16,17,18] [(4,u8v z12),(19,.slice A6 (z6).length c6),(20,iv (z6.length:Int)),(21,iv y9),(35,.bool (decide (((!p14)=true)∧((((z12).toNat:Int)<48)∨(((z12).toNat:Int)>57)))))] (λK16=>?_) ?_
   ·refine Rn.part (t:=28) rfl (λh17=>?_) (λh17=>?_)
    ·refine gg 1 rfl (Rn.q rfl (V.lss rfl rfl) (gg 1 rfl ?_));refine Rn.cutR [10,11,12,13,14,15,16,17,18] [(4,u8v z12),(19,.slice A6 (z6).length c6),(20,iv (z6.length:Int)),(21,iv y9),(28,.bool true),(34,.bool (decide ((((z12).toNat:Int)<48)∨(((z12).toNat:Int)>57))))] (λK18=>?_) ?_
     ·refine Rn.partD (t:=31) rfl (λh19=>?_) (λh19=>?_)
      ·refine gg 3 rfl ?_;exact K18 _ sA
      refine gg 1 rfl (Rn.q rfl (V.gtr rfl rfl) (gg 1 rfl ?_));exact K18 _ sA
     refine gg 1 rfl ?_;exact K16 _ sA
    refine gg 7 rfl ?_;exact K16 _ sA
   refine gg 1 rfl ?_;refine Rn.cutR [15,16,17,18] [(4,u8v z12),(19,.slice A6 (z6).length c6),(20,iv (z6.length:Int)),(21,iv y9),(39,.bool (decide ((((!p14)=true)∧((((z12).toNat:Int)<48)∨(((z12).toNat:Int)>57)))∧(((z12).toNat:Int)≠95))))] (λK20=>?_) ?_
   ·refine Rn.partD (t:=36) rfl (λh21=>?_) (λh21=>?_)
    ·refine gg 1 rfl (Rn.q rfl (V.neq rfl rfl) (gg 1 rfl ?_));exact K20 _ sA
    refine gg 3 rfl ?_;exact K20 _ sA
   refine gg 1 rfl ?_;refine Rn.cutR [] [(19,.slice A6 (z6).length c6),(20,iv (z6.length:Int)),(21,iv y9),(43,.bool (decide (((((!p14)=true)∧((((z12).toNat:Int)<48)∨(((z12).toNat:Int)>57)))∧(((z12).toNat:Int)≠95))∧(((z12).toNat:Int)≠46))))] (λK22=>?_) ?_
   ·refine Rn.partD (t:=40) rfl (λh23=>?_) (λh23=>?_)
    ·refine gg 1 rfl (Rn.q rfl (V.neq rfl rfl) (gg 1 rfl ?_));exact K22 _ sA
    refine gg 3 rfl ?_;exact K22 _ sA
   refine gg 1 rfl ?_;refine bD Y 4 6 (λh24 Y=>?_) (λh24 Y=>?_)
   ·cases Y
    exact Rn.R1 func114 ⟨rfl,D15.pk []⟩
   exact N10 (W64 (y9+1)) _ _ sA (D15.pk [0]) Y
  exact K2 () _ _ (sb trivial) (D10.pk []) Y
 intro j1 Y K1;refine askD Y (Rn.partD (t:=12) rfl) (λh25 Y=>?_) (λh25 Y=>?_)
 ·refine gg 5 rfl ?_;exact K1 true _ _ sA (D0.pk []) Y
 refine gg 1 rfl ?_;obtain ⟨z26,e26,Y⟩:=bindE Y;refine Rn.q rfl (V.idxSZ U9 rfl rfl e26) ?_;obtain ⟨p27,e27,Y⟩:=bindE Y
 refine Rn.c0 (cK func167) (m_label_small_sim (Z0:=All) e27  :) D0 λw27 _ D28=>?_
 refine Rn.q rfl (V.notB rfl) (gg 1 rfl ?_);exact K1 (!p27) _ _ sA (D28.pk []) Y
theorem m_label_isValue_sim {x0:(List UInt8)} {r:Bool} (Y:m_label_isValue x0=some r)  :
 Calls prog 115 #[Str (x0)] w λx w'=>x=.returned (.bool (r))∧Hp Z0 No w w' []:=by
 have D0:=Hp.nil Z0 No w;have hc0:=Calm.nil;refine eg func115 8 ?_;refine Rn.q rfl (V.eqlS rfl rfl) (gg 1 rfl ?_);refine Rn.cutR [] [(0,Str (x0)),(11,.bool (decide ((x0=([]:List UInt8))∨((x0.length:Int)>32))))] (λK1=>?_) ?_
 ·refine Rn.partD (t:=7) rfl (λh2=>?_) (λh2=>?_)
  ·refine gg 4 rfl ?_;exact K1 _ sA
  refine gg 1 rfl (Rn.q rfl (V.lenS U9 rfl) (gg 2 rfl ?_));exact K1 _ sA
 refine gg 1 rfl ?_;refine bD Y 4 5 (λh3 Y=>?_) (λh3 Y=>?_)
 ·cases Y
  exact Rn.R1 func115 ⟨rfl,D0.pk []⟩
 obtain ⟨z4,e4,Y⟩:=bindE Y;refine Rn.s2bH D0 e4 rfl rfl rfl U9 U51 U5 rfl ?_;intro A4 c4 w4 D4;refine Rn.q rfl (V.lenV U51 rfl) (gg 2 rfl ?_);refine Rn.jG D0 Y (G:=Unit) (λg=>[]) (λg=>[]) (λj g=>j ()) ?_ ?_
 ·rintro _ w6 D6 Y
  try dsimp only at Y
  refine gg 4 rfl ?_
  cases Y
  exact Rn.R1 func115 ⟨rfl,D6.pk []⟩
 intro j1 Y K1;refine gg 1 rfl ?_;refine Rn.lF D4 [0] (G:=Int) (λg=>[(13,.slice A4 (z4).length c4),(14,iv (z4.length:Int)),(15,iv g)]) (λg=>[_]) (λn g=>m_label_isValue_L1 z4 j1 n g) fuel 0 sA (D4.pk [0]) Y ?_;clear Y;rintro m8 y7 w8 D8 Y N8;replace Y:m_label_isValue_L1 z4 j1 (m8+1) y7=some r:=Y;rw [m_label_isValue_L1] at Y;refine gg 5 rfl ?_;refine bD Y 5 1 (λh9 Y=>?_) (λh9 Y=>?_)
 ·obtain ⟨z10,e10,Y⟩:=bindE Y;refine Rn.ixH D8 0 rfl e10 rfl rfl rfl U51 O5 rfl rfl rfl rfl ?_;rintro b10 o10 vs10 ⟨rfl,_⟩ D10;refine Rn.q rfl (V.ldR0 V5 rfl (D10.get 1 rfl).2 rfl) (gg 7 rfl (Rn.q rfl (V.lss rfl rfl) (gg 2 rfl ?_)));refine Rn.jF D10 [0] Y (G:=Bool) (λg=>[(13,.slice A4 (z4).length c4),(14,iv (z4.length:Int)),(15,iv y7),(19,.bool (g))]) (λg=>[_]) (λj g=>j g) ?_ ?_
  ·rintro y12 w13 D13 Y
   try dsimp only at Y
   refine bS Y 4 7 (λh14 Y=>?_) (λh14 Y=>?_)
   ·cases Y
    exact Rn.R1 func115 ⟨rfl,D13.pk []⟩
   exact N8 (W64 (y7+1)) _ _ sA (D13.pk [0]) Y
  intro j2 Y K2;refine bD Y 1 3 (λh15 Y=>?_) (λh15 Y=>?_)
  ·exact K2 (decide (((z10).toNat:Int)<33)) _ _ sA (D10.pk [0]) Y
  refine Rn.q rfl (V.gtr rfl rfl) (gg 2 rfl ?_);refine bD Y 1 3 (λh16 Y=>?_) (λh16 Y=>?_)
  ·exact K2 (decide (((z10).toNat:Int)>126)) _ _ sA (D10.pk [0]) Y
  refine Rn.q rfl (V.eql rfl rfl) (gg 2 rfl ?_);refine bD Y 1 3 (λh17 Y=>?_) (λh17 Y=>?_)
  ·exact K2 (decide (((z10).toNat:Int)=61)) _ _ sA (D10.pk [0]) Y
  refine Rn.q rfl (V.eql rfl rfl) (gg 2 rfl ?_);refine bD Y 1 2 (λh18 Y=>?_) (λh18 Y=>?_)
  ·exact K2 (decide (((z10).toNat:Int)=59)) _ _ sA (D10.pk [0]) Y
  refine Rn.q rfl (V.eql rfl rfl) (gg 2 rfl ?_);exact K2 (decide (((z10).toNat:Int)=44)) _ _ sA (D10.pk [0]) Y
 exact K1 () _ _ (sb trivial) (D8.pk []) Y
theorem m_label_Check_1_sim {x0:T_api_Pair} {b1 o1:Nat} {x1:T_api_Pair} {r:Bool} (Y:m_label_Check_1 x0 x1=some r) (f0:(rdR b1 o1 [Str (x1.Key),Str (x1.Val)]).H Z0 w) :
 Calls prog 117 #[.agg [Str (x0.Key),Str (x0.Val)].toArray,pt b1 o1] w λx w'=>x=.returned (.bool (r))∧Hp Z0 No w w' []:=by
 obtain ⟨D0,D2,hc0⟩:=knA f0;refine eg func117 2 ?_
 refine Rn.bx D2 λb3 w3 D5=>?_
 replace D5:=D5.nb;refine gg 5 rfl (Rn.q rfl (V.ldB V9 rfl (D5.get 1 rfl) rfl) (gg 1 rfl (Rn.q rfl (V.ldR0 V9 rfl (D5.get 0 rfl).2 rfl) (Rn.q rfl (V.eqlS rfl rfl) (gg 2 rfl ?_)))))
 cases Y
 exact Rn.R1 func117 ⟨rfl,D5.pk []⟩
theorem m_slices_IndexFunc_api_Pair_api_Pair_s1_sim {x0:(List T_api_Pair)} {x1_0:T_api_Pair} {b1_0 o1_0:Nat} {r:Int} (Y:m_slices_IndexFunc_api_Pair_api_Pair_s1 x0 x1_0=some r) (f0:(slR A0 c0 T_api_Pair.rep x0).H Z0 w) (f1:(rdR b1_0 o1_0 [Str (x1_0.Key),Str (x1_0.Val)]).H Z0 w) :
 Calls prog 168 #[.slice A0 (x0).length c0,.func (.func 117) #[] [pt b1_0 o1_0].toArray] w λx w'=>x=.returned (iv r)∧Hp Z0 No w w' []:=by
 obtain ⟨D0,D3,hc0⟩:=knA f0;obtain ⟨D4,hc0⟩:=D3.kn hc0 f1;refine eg func168 8 ?_;refine Rn.q rfl (V.lenV U30 rfl) (gg 2 rfl ?_);refine Rn.jG D0 Y (G:=Unit) (λg=>[]) (λg=>[]) (λj g=>j ()) ?_ ?_
 ·rintro _ w5 D5 Y
  try dsimp only at Y
  refine gg 4 rfl ?_
  cases Y
  exact Rn.R1 func168 ⟨rfl,D5.pk []⟩
 intro j1 Y K1;refine gg 1 rfl ?_;refine Rn.lF D4 [0,1] (G:=Int) (λg=>[(0,.slice A0 (x0).length c0),(1,.func (.func 117) #[] [pt b1_0 o1_0].toArray),(7,iv (x0.length:Int)),(8,iv g)]) (λg=>[_,_]) (λn g=>m_slices_IndexFunc_api_Pair_api_Pair_s1_L1 x0 x1_0 j1 n g) fuel 0 sA (D4.pk [0,1]) Y ?_;clear Y;rintro m7 y6 w7 D7 Y N7;replace Y:m_slices_IndexFunc_api_Pair_api_Pair_s1_L1 x0 x1_0 j1 (m7+1) y6=some r:=Y;rw [m_slices_IndexFunc_api_Pair_api_Pair_s1_L1] at Y;refine gg 5 rfl ?_;refine bD Y 13 1 (λh8 Y=>?_) (λh8 Y=>?_)
 ·obtain ⟨z9,e9,Y⟩:=bindE Y;refine Rn.ixH D7 0 rfl e9 rfl rfl rfl U30 O116 rfl rfl rfl rfl ?_;rintro b9 o9 vs9 hr9 D9;obtain rfl:=T_api_Pair.relE hr9;refine Rn.q rfl (V.ldA (vs:=[_,_]) V116 O116 rfl (Rd.pre (D9.get 2 rfl).2 2) rfl) ?_;obtain ⟨p11,e11,Y⟩:=bindE Y;refine Rn.clV (cK func117) rfl rfl rfl rfl rfl (m_label_Check_1_sim (Z0:=All) e11 (rdR_all (D9.get 1 rfl)) :) ?_;rintro _ w11 ⟨rfl,Q11⟩;refine ⟨_,rfl,?_⟩;have D12:=D9.call0 Q11;refine gg 1 rfl ?_;refine bS Y 5 6 (λh13 Y=>?_) (λh13 Y=>?_)
  ·cases Y
   exact Rn.R1 func168 ⟨rfl,D12.pk []⟩
  exact N7 (W64 (y6+1)) _ _ sA (D12.pk [0,1]) Y
 exact K1 () _ _ (sb trivial) (D7.pk []) Y
theorem m_slices_ContainsFunc_api_Pair_api_Pair_s2_sim {x0:(List T_api_Pair)} {x1_0:T_api_Pair} {b1_0 o1_0:Nat} {r:Bool} (Y:m_slices_ContainsFunc_api_Pair_api_Pair_s2 x0 x1_0=some r) (f0:(slR A0 c0 T_api_Pair.rep x0).H Z0 w) (f1:(rdR b1_0 o1_0 [Str (x1_0.Key),Str (x1_0.Val)]).H Z0 w) :
 Calls prog 116 #[.slice A0 (x0).length c0,.func (.func 117) #[] [pt b1_0 o1_0].toArray] w λx w'=>x=.returned (.bool (r))∧Hp Z0 No w w' []:=by
 obtain ⟨D0,D3,hc0⟩:=knA f0;obtain ⟨D4,hc0⟩:=D3.kn hc0 f1;refine eg func116 8 ?_;obtain ⟨p5,e5,Y⟩:=bindE Y
 refine Rn.c0 (cK func168) (m_slices_IndexFunc_api_Pair_api_Pair_s1_sim (Z0:=All) e5 (slR_all (D4.get 0 rfl)) (rdR_all (D4.get 1 rfl)) :) D4 λw5 _ D6=>?_
 refine gg 3 rfl ?_
 cases Y
 exact Rn.R1 func116 ⟨rfl,D6.pk []⟩
theorem m_label_Check_sim {x0:(List UInt8)} {x1:(List T_api_Pair)} {r:Int} (Y:m_label_Check x0 x1=some r) (f0:(slR A1 c1 T_api_Pair.rep x1).H Z0 w) :
 Calls prog 57 #[Str (x0),.slice A1 (x1).length c1] w λx w'=>x=.returned (iv r)∧Hp Z0 No w w' []:=by
 obtain ⟨D0,D2,hc0⟩:=knA f0;refine eg func57 8 ?_;obtain ⟨p3,e3,Y⟩:=bindE Y
 refine Rn.c0 (cK func114) (m_label_isName_sim (Z0:=All) e3  :) D2 λw3 _ D4=>?_
 refine Rn.q rfl (V.notB rfl) (gg 1 rfl ?_);refine bS Y 4 5 (λh5 Y=>?_) (λh5 Y=>?_)
 ·cases Y
  exact Rn.R1 func57 ⟨rfl,D4.pk []⟩
 refine Rn.q rfl (V.lenV U30 rfl) (gg 2 rfl ?_);refine bD Y 4 5 (λh6 Y=>?_) (λh6 Y=>?_)
 ·cases Y
  exact Rn.R1 func57 ⟨rfl,D4.pk []⟩
 refine Rn.q rfl (V.lenV U30 rfl) (gg 2 rfl ?_);refine Rn.jG D0 Y (G:=Unit) (λg=>[]) (λg=>[]) (λj g=>j ()) ?_ ?_
 ·rintro _ w7 D7 Y
  try dsimp only at Y
  refine gg 4 rfl ?_
  cases Y
  exact Rn.R1 func57 ⟨rfl,D7.pk []⟩
 intro j1 Y K1;refine gg 1 rfl ?_;refine Rn.lF D4 [0] (G:=Int) (λg=>[(1,.slice A1 (x1).length c1),(13,.slice A1 (x1).length c1),(14,iv (x1.length:Int)),(15,iv g)]) (λg=>[_]) (λn g=>m_label_Check_L1 x1 j1 n g) fuel 0 sA (D4.pk [0]) Y ?_;clear Y;rintro m9 y8 w9 D9 Y N9;replace Y:m_label_Check_L1 x1 j1 (m9+1) y8=some r:=Y;rw [m_label_Check_L1] at Y;refine gg 5 rfl ?_;refine bD Y 6 1 (λh10 Y=>?_) (λh10 Y=>?_)
 ·obtain ⟨z11,e11,Y⟩:=bindE Y;refine Rn.ixH D9 0 rfl e11 rfl rfl rfl U30 O116 rfl rfl rfl rfl ?_;rintro b11 o11 vs11 hr11 D11;obtain rfl:=T_api_Pair.relE hr11;refine Rn.q rfl (V.ldA (vs:=[_,_]) V116 O116 rfl (Rd.pre (D11.get 1 rfl).2 2) rfl) (Rn.al D11 Tryz.zeroValue116 λb13 w13 D15=>?_);replace D15:=D15.nb;refine gg 1 rfl (Rn.sn D15 2 O116 λw16 D17=>?_);refine gg 5 rfl (Rn.q rfl (V.ldB V9 rfl (D17.get 2 rfl) rfl) ?_);obtain ⟨p18,e18,Y⟩:=bindE Y
  refine Rn.c0 (cK func114) (m_label_isName_sim (Z0:=All) e18  :) D17 λw18 _ D19=>?_
  refine Rn.q rfl (V.notB rfl) (gg 1 rfl ?_);refine Rn.jQ D19 [0,2] Y (G:=Bool) [] (λg=>[(1,.slice A1 (x1).length c1),(5,iv y8),(6,pt b13 0),(13,.slice A1 (x1).length c1),(14,iv (x1.length:Int)),(15,iv y8),(29,.bool (g))]) (λg=>[_,_]) (λj g=>j g) ?_ ?_
  ·rintro y20 w21 D21 Y
   try dsimp only at Y
   refine gg 1 rfl ?_;refine bS Y 4 5 (λh22 Y=>?_) (λh22 Y=>?_)
   ·cases Y
    exact Rn.R1 func57 ⟨rfl,D21.pk []⟩
   obtain ⟨z23,e23,Y⟩:=bindE Y;refine Rn.cutH D21 0 rfl e23 rfl rfl rfl U30 O116 rfl rfl rfl rfl rfl ?_;intro A23 c23 D23;refine Rn.q rfl (V.mkF rfl) ?_;obtain ⟨p25,e25,Y⟩:=bindE Y
   refine Rn.c0 (cK func116) (m_slices_ContainsFunc_api_Pair_api_Pair_s2_sim (Z0:=All) e25 (slR_all (D23.get 2 rfl)) (box_rdR (D23.get 1 rfl)) :) D23 λw25 _ D26=>?_
   refine gg 1 rfl ?_;refine bS Y 4 6 (λh27 Y=>?_) (λh27 Y=>?_)
   ·cases Y
    exact Rn.R1 func57 ⟨rfl,D26.pk []⟩
   exact N9 (W64 (y8+1)) _ _ sA (D26.pk [0]) Y
  intro j2 Y K2;refine askS Y (Rn.part (t:=24) rfl) (λh28 Y=>?_) (λh28 Y=>?_)
  ·refine gg 5 rfl ?_;exact K2 true _ _ sA (D19.pk [0,2]) Y
  refine gg 1 rfl (Rn.q rfl (V.ldB V9 rfl (D19.get 2 rfl) rfl) ?_);obtain ⟨p29,e29,Y⟩:=bindE Y
  refine Rn.c0 (cK func115) (m_label_isValue_sim (Z0:=All) e29  :) D19 λw29 _ D30=>?_
  refine Rn.q rfl (V.notB rfl) (gg 1 rfl ?_);exact K2 (!p29) _ _ sA (D30.pk [0,2]) Y
 exact K1 () _ _ (sb trivial) (D9.pk []) Y
theorem m_point_kinds_sim {x0:T_api_Point} {r:Bool} (Y:m_point_kinds x0=some r) (h0:T_api_Point.rep.rel Z0 w cs0 x0) :
 Calls prog 58 #[.agg cs0.toArray] w λx w'=>x=.returned (.bool (r))∧Hp Z0 No w w' []:=by
 have D0:=Hp.nil Z0 No w;have hc0:=Calm.nil;obtain ⟨Ar1,cr1,Ar3,cr3,Ar5,cr5,rfl,fs1,fs3,fs5⟩:=T_api_Point.relE h0;obtain ⟨D7,hc0⟩:=D0.kn hc0 fs1;obtain ⟨D8,hc0⟩:=D7.kn hc0 fs3;obtain ⟨D9,hc0⟩:=D8.kn hc0 fs5;refine eg func58 2 ?_
 refine Rn.bx D9 λb10 w10 D12=>?_
 replace D12:=D12.nb;refine gg 6 rfl (Rn.q rfl (V.ldB V3 rfl (D12.get 3 rfl) rfl) (gg 7 rfl ?_));refine bD Y 3 6 (λh13 Y=>?_) (λh13 Y=>?_)
 ·refine Rn.q rfl (V.ldB V3 rfl (D12.get 3 rfl) rfl) (gg 3 rfl ?_)
  cases Y
  exact Rn.R1 func58 ⟨rfl,D12.pk []⟩
 refine Rn.jF D12 [0,1,2,3] Y (G:=Bool) (λg=>[(1,pt b10 0),(10,.bool (g))]) (λg=>[_,_,_,_]) (λj g=>j g) ?_ ?_
 ·rintro y14 w15 D15 Y
  try dsimp only at Y
  refine bS Y 3 6 (λh16 Y=>?_) (λh16 Y=>?_)
  ·refine Rn.q rfl (V.ldB V3 rfl (D15.get 3 rfl) rfl) (gg 2 rfl ?_);refine Rn.cutR [8] [(22,.bool (decide ((x0.Temp=1)∨(x0.Temp=2))))] (λK17=>?_) ?_
   ·refine Rn.partD (t:=18) rfl (λh18=>?_) (λh18=>?_)
    ·refine gg 4 rfl ?_;exact K17 _ sA
    refine gg 1 rfl (Rn.q rfl (V.ldB V3 rfl (D15.get 3 rfl) rfl) (gg 2 rfl ?_));exact K17 _ sA
   refine gg 2 rfl ?_
   cases Y
   exact Rn.R1 func58 ⟨rfl,D15.pk []⟩
  cases Y
  exact Rn.R1 func58 ⟨rfl,D15.pk []⟩
 intro j1 Y K1;refine bD Y 1 5 (λh19 Y=>?_) (λh19 Y=>?_)
 ·exact K1 (decide (x0.Kind=1)) _ _ sA (D12.pk [0,1,2,3]) Y
 refine bD Y 1 5 (λh20 Y=>?_) (λh20 Y=>?_)
 ·exact K1 (decide (x0.Kind=2)) _ _ sA (D12.pk [0,1,2,3]) Y
 refine bD Y 1 4 (λh21 Y=>?_) (λh21 Y=>?_)
 ·exact K1 (decide (x0.Kind=4)) _ _ sA (D12.pk [0,1,2,3]) Y
 exact K1 (decide (x0.Kind=5)) _ _ sA (D12.pk [0,1,2,3]) Y
theorem m_point_sum_sim {x0:T_api_Point} {r:Bool} (Y:m_point_sum x0=some r) (h0:T_api_Point.rep.rel Z0 w cs0 x0) :
 Calls prog 59 #[.agg cs0.toArray] w λx w'=>x=.returned (.bool (r))∧Hp Z0 No w w' []:=by
 have D0:=Hp.nil Z0 No w;have hc0:=Calm.nil;obtain ⟨Ar1,cr1,Ar3,cr3,Ar5,cr5,rfl,fs1,fs3,fs5⟩:=T_api_Point.relE h0;obtain ⟨D7,hc0⟩:=D0.kn hc0 fs1;obtain ⟨D8,hc0⟩:=D7.kn hc0 fs3;obtain ⟨D9,hc0⟩:=D8.kn hc0 fs5;refine eg func59 2 ?_
 refine Rn.bx D9 λb10 w10 D12=>?_
 replace D12:=D12.nb;refine gg 5 rfl (Rn.q rfl (V.ldB V3 rfl (D12.get 3 rfl) rfl) (gg 2 rfl ?_));refine Rn.cutR [8] [(10,.bool (decide ((x0.Kind=1)∨(x0.Kind=2))))] (λK13=>?_) ?_
 ·refine Rn.partD (t:=6) rfl (λh14=>?_) (λh14=>?_)
  ·refine gg 4 rfl ?_;exact K13 _ sA
  refine gg 1 rfl (Rn.q rfl (V.ldB V3 rfl (D12.get 3 rfl) rfl) (gg 2 rfl ?_));exact K13 _ sA
 refine gg 2 rfl ?_
 cases Y
 exact Rn.R1 func59 ⟨rfl,D12.pk []⟩
theorem m_point_times_sim {x0:T_api_Point} {r:Bool} (Y:m_point_times x0=some r) (h0:T_api_Point.rep.rel Z0 w cs0 x0) :
 Calls prog 60 #[.agg cs0.toArray] w λx w'=>x=.returned (.bool (r))∧Hp Z0 No w w' []:=by
 have D0:=Hp.nil Z0 No w;have hc0:=Calm.nil;obtain ⟨Ar1,cr1,Ar3,cr3,Ar5,cr5,rfl,fs1,fs3,fs5⟩:=T_api_Point.relE h0;obtain ⟨D7,hc0⟩:=D0.kn hc0 fs1;obtain ⟨D8,hc0⟩:=D7.kn hc0 fs3;obtain ⟨D9,hc0⟩:=D8.kn hc0 fs5;refine eg func60 2 ?_
 refine Rn.bx D9 λb10 w10 D12=>?_
 replace D12:=D12.nb;refine gg 6 rfl (Rn.q rfl (V.ldB V3 rfl (D12.get 3 rfl) rfl) (gg 2 rfl ?_));refine Rn.cutR [] [(1,pt b10 0),(10,.bool (decide ((x0.Start<0)∨(x0.Time>4503599627370496))))] (λK13=>?_) ?_
 ·refine Rn.partD (t:=6) rfl (λh14=>?_) (λh14=>?_)
  ·refine gg 4 rfl ?_;exact K13 _ sA
  refine gg 1 rfl (Rn.q rfl (V.ldB V3 rfl (D12.get 3 rfl) rfl) (gg 2 rfl ?_));exact K13 _ sA
 refine gg 1 rfl ?_;refine bD Y 4 5 (λh15 Y=>?_) (λh15 Y=>?_)
 ·cases Y
  exact Rn.R1 func60 ⟨rfl,D12.pk []⟩
 refine Rn.q rfl (V.ldB V3 rfl (D12.get 3 rfl) rfl) (gg 2 rfl ?_);refine bD Y 3 4 (λh16 Y=>?_) (λh16 Y=>?_)
 ·refine Rn.q rfl (V.ldB V3 rfl (D12.get 3 rfl) rfl) (gg 1 rfl (Rn.q rfl (V.ldB V3 rfl (D12.get 3 rfl) rfl) (gg 3 rfl ?_)))
  cases Y
  exact Rn.R1 func60 ⟨rfl,D12.pk []⟩
 refine Rn.q rfl (V.ldB V3 rfl (D12.get 3 rfl) rfl) (gg 1 rfl (Rn.q rfl (V.ldB V3 rfl (D12.get 3 rfl) rfl) (gg 3 rfl ?_)))
 cases Y
 exact Rn.R1 func60 ⟨rfl,D12.pk []⟩
theorem m_point_bare_sim {x0:T_api_Hist} {r:Bool} (Y:m_point_bare x0=some r) (h0:T_api_Hist.rep.rel Z0 w cs0 x0) :
 Calls prog 118 #[.agg cs0.toArray] w λx w'=>x=.returned (.bool (r))∧Hp Z0 No w w' []:=by
 have D0:=Hp.nil Z0 No w;have hc0:=Calm.nil;obtain ⟨Ar1,cr1,Ar3,cr3,rfl,fs1,fs3⟩:=T_api_Hist.relE h0;obtain ⟨D5,hc0⟩:=D0.kn hc0 fs1;obtain ⟨D6,hc0⟩:=D5.kn hc0 fs3;refine eg func118 2 ?_
 refine Rn.bx D6 λb7 w7 D9=>?_
 replace D9:=D9.nb;refine gg 5 rfl (Rn.q rfl (V.ldB V3 rfl (D9.get 2 rfl) rfl) (gg 2 rfl ?_));refine Rn.cutR [8,9,10,11,12,13,14,15,16,17,18,19,20,21,22,23,24,25,26,27,28,29,30,31,32] [(1,pt b7 0),(10,.bool (decide ((x0.Scale=0)∧(((x0.Zero).toNat:Int)=0))))] (λK10=>?_) ?_
 ·refine Rn.partD (t:=6) rfl (λh11=>?_) (λh11=>?_)
  ·refine gg 1 rfl (Rn.q rfl (V.ldB V31 rfl (D9.get 2 rfl) rfl) (Rn.q rfl (V.eql rfl rfl) (gg 1 rfl ?_)));exact K10 _ sA
  refine gg 4 rfl ?_;exact K10 _ sA
 refine gg 1 rfl ?_;refine Rn.cutR [14,15,16,17,18,19,20,21,22,23,24,25,26,27,28,29,30,31,32] [(1,pt b7 0),(16,.bool (decide (((x0.Scale=0)∧(((x0.Zero).toNat:Int)=0))∧(x0.Pos.Offset=0))))] (λK12=>?_) ?_
 ·refine Rn.partD (t:=11) rfl (λh13=>?_) (λh13=>?_)
  ·refine gg 2 rfl (Rn.q rfl (V.ldB V3 rfl (D9.get 2 rfl) rfl) (gg 2 rfl ?_));exact K12 _ sA
  refine gg 5 rfl ?_;exact K12 _ sA
 refine gg 1 rfl ?_;refine Rn.cutR [20,21,22,23,24,25,26,27,28,29,30,31,32] [(1,pt b7 0),(22,.bool (decide ((((x0.Scale=0)∧(((x0.Zero).toNat:Int)=0))∧(x0.Pos.Offset=0))∧(x0.Neg.Offset=0))))] (λK14=>?_) ?_
 ·refine Rn.partD (t:=17) rfl (λh15=>?_) (λh15=>?_)
  ·refine gg 2 rfl (Rn.q rfl (V.ldB V3 rfl (D9.get 2 rfl) rfl) (gg 2 rfl ?_));exact K14 _ sA
  refine gg 5 rfl ?_;exact K14 _ sA
 refine gg 1 rfl ?_;refine Rn.jQ D9 [0,1,2] Y (G:=Bool) [32] (λg=>[(34,.bool (g))]) (λg=>[_,_,_]) (λj g=>j g) ?_ ?_
 ·rintro y16 w17 D17 Y
  try dsimp only at Y
  refine gg 2 rfl ?_
  cases Y
  exact Rn.R1 func118 ⟨rfl,D17.pk []⟩
 intro j1 Y K1;refine askD Y (Rn.partD (t:=23) rfl) (λh18 Y=>?_) (λh18 Y=>?_)
 ·refine gg 2 rfl (Rn.q rfl (V.ldB V32 rfl (D9.get 2 rfl) rfl) (Rn.q rfl (V.lenV U32 rfl) (gg 2 rfl (Rn.q rfl (V.ldB V32 rfl (D9.get 2 rfl) rfl) (Rn.q rfl (V.lenV U32 rfl) (gg 3 rfl ?_))))));exact K1 (decide (W64 ((x0.Pos.Counts.length:Int)+(x0.Neg.Counts.length:Int))=0)) _ _ sA (D9.pk [0,1,2]) Y
 refine gg 11 rfl ?_;exact K1 false _ _ sA (D9.pk [0,1,2]) Y
theorem m_point_own_sim {x0:T_api_Point} {r:Bool} (Y:m_point_own x0=some r) (h0:T_api_Point.rep.rel Z0 w cs0 x0) :
 Calls prog 61 #[.agg cs0.toArray] w λx w'=>x=.returned (.bool (r))∧Hp Z0 No w w' []:=by
 have D0:=Hp.nil Z0 No w;have hc0:=Calm.nil;obtain ⟨Ar1,cr1,Ar3,cr3,Ar5,cr5,rfl,fs1,fs3,fs5⟩:=T_api_Point.relE h0;obtain ⟨D7,hc0⟩:=D0.kn hc0 fs1;obtain ⟨D8,hc0⟩:=D7.kn hc0 fs3;obtain ⟨D9,hc0⟩:=D8.kn hc0 fs5;refine eg func61 2 ?_
 refine Rn.bx D9 λb10 w10 D12=>?_
 replace D12:=D12.nb;refine gg 5 rfl (Rn.q rfl (V.ldB V3 rfl (D12.get 3 rfl) rfl) (gg 2 rfl ?_));refine Rn.cutR [8,9,10,11,12,13] [(1,pt b10 0),(11,.bool (decide ((x0.Kind=2)∨(x0.Kind=3))))] (λK13=>?_) ?_
 ·refine Rn.partD (t:=7) rfl (λh14=>?_) (λh14=>?_)
  ·refine gg 4 rfl ?_;exact K13 _ sA
  refine gg 1 rfl (Rn.q rfl (V.ldB V3 rfl (D12.get 3 rfl) rfl) (gg 2 rfl ?_));exact K13 _ sA
 refine gg 1 rfl ?_;refine Rn.cutR [13] [(1,pt b10 0),(16,.bool (decide (((x0.Kind=2)∨(x0.Kind=3))∨(x0.Kind=5))))] (λK15=>?_) ?_
 ·refine Rn.partD (t:=12) rfl (λh16=>?_) (λh16=>?_)
  ·refine gg 4 rfl ?_;exact K15 _ sA
  refine gg 1 rfl (Rn.q rfl (V.ldB V3 rfl (D12.get 3 rfl) rfl) (gg 2 rfl ?_));exact K15 _ sA
 refine gg 8 rfl (Rn.q rfl (V.ldB V3 rfl (D12.get 3 rfl) rfl) (gg 2 rfl ?_));refine Rn.cutR [8] [(1,pt b10 0),(3,.bool (decide (((x0.Kind=2)∨(x0.Kind=3))∨(x0.Kind=5)))),(25,.bool (decide ((x0.Kind≠1)∧(x0.Int_≠0))))] (λK17=>?_) ?_
 ·refine Rn.partD (t:=21) rfl (λh18=>?_) (λh18=>?_)
  ·refine gg 1 rfl (Rn.q rfl (V.ldB V3 rfl (D12.get 3 rfl) rfl) (gg 2 rfl ?_));exact K17 _ sA
  refine gg 4 rfl ?_;exact K17 _ sA
 refine gg 2 rfl ?_;refine Rn.jF D12 [0,1,2,3] Y (G:=Bool) (λg=>[(17,.bool (g))]) (λg=>[_,_,_,_]) (λj g=>j g) ?_ ?_
 ·rintro y19 w20 D20 Y
  try dsimp only at Y
  refine bS Y 4 6 (λh21 Y=>?_) (λh21 Y=>?_)
  ·cases Y
   exact Rn.R1 func61 ⟨rfl,D20.pk []⟩
  cases Y
  exact Rn.R1 func61 ⟨rfl,D20.pk []⟩
 intro j1 Y K1;refine bD Y 1 3 (λh22 Y=>?_) (λh22 Y=>?_)
 ·exact K1 (decide ((x0.Kind≠1)∧(x0.Int_≠0))) _ _ sA (D12.pk [0,1,2,3]) Y
 refine Rn.q rfl (V.notD rfl) (gg 1 rfl ?_);refine Rn.cutR [7] [(1,pt b10 0),(32,.bool (decide ((¬(((x0.Kind=2)∨(x0.Kind=3))∨(x0.Kind=5)))∧(((x0.Re).toNat:Int)≠0))))] (λK23=>?_) ?_
 ·refine Rn.partD (t:=28) rfl (λh24=>?_) (λh24=>?_)
  ·refine gg 1 rfl (Rn.q rfl (V.ldB V31 rfl (D12.get 3 rfl) rfl) (Rn.q rfl (V.neq rfl rfl) (gg 1 rfl ?_)));exact K23 _ sA
  refine gg 4 rfl ?_;exact K23 _ sA
 refine gg 2 rfl ?_;refine bD Y 1 3 (λh25 Y=>?_) (λh25 Y=>?_)
 ·exact K1 (decide ((¬(((x0.Kind=2)∨(x0.Kind=3))∨(x0.Kind=5)))∧(((x0.Re).toNat:Int)≠0))) _ _ sA (D12.pk [0,1,2,3]) Y
 refine Rn.q rfl (V.ldB V3 rfl (D12.get 3 rfl) rfl) (gg 2 rfl ?_);refine Rn.cutR [8] [(1,pt b10 0),(40,.bool (decide ((x0.Kind≠5)∧(((x0.Im).toNat:Int)≠0))))] (λK26=>?_) ?_
 ·refine Rn.partD (t:=36) rfl (λh27=>?_) (λh27=>?_)
  ·refine gg 1 rfl (Rn.q rfl (V.ldB V31 rfl (D12.get 3 rfl) rfl) (Rn.q rfl (V.neq rfl rfl) (gg 1 rfl ?_)));exact K26 _ sA
  refine gg 4 rfl ?_;exact K26 _ sA
 refine gg 2 rfl ?_;refine bD Y 1 3 (λh28 Y=>?_) (λh28 Y=>?_)
 ·exact K1 (decide ((x0.Kind≠5)∧(((x0.Im).toNat:Int)≠0))) _ _ sA (D12.pk [0,1,2,3]) Y
 refine Rn.q rfl (V.ldB V3 rfl (D12.get 3 rfl) rfl) (gg 2 rfl ?_);refine Rn.jQ D12 [0,1,2,3] Y (G:=Bool) [9] (λg=>[(1,pt b10 0),(49,.bool (g))]) (λg=>[_,_,_,_]) (λj g=>j g) ?_ ?_
 ·rintro y29 w30 D30 Y
  try dsimp only at Y
  refine gg 2 rfl ?_;refine bS Y 1 2 (λh31 Y=>?_) (λh31 Y=>?_)
  ·exact K1 y29 _ _ sA (D30.pk [0,1,2,3]) Y
  refine Rn.q rfl (V.ldB V3 rfl (D30.get 3 rfl) rfl) (gg 2 rfl ?_);refine Rn.cutR [8] [(57,.bool (decide ((x0.Flags<0)∨(x0.Flags>31))))] (λK32=>?_) ?_
  ·refine Rn.partD (t:=53) rfl (λh33=>?_) (λh33=>?_)
   ·refine gg 4 rfl ?_;exact K32 _ sA
   refine gg 1 rfl (Rn.q rfl (V.ldB V3 rfl (D30.get 3 rfl) rfl) (gg 2 rfl ?_));exact K32 _ sA
  refine gg 2 rfl ?_;exact K1 (decide ((x0.Flags<0)∨(x0.Flags>31))) _ _ sA (D30.pk [0,1,2,3]) Y
 intro j2 Y K2;refine askD Y (Rn.partD (t:=44) rfl) (λh34 Y=>?_) (λh34 Y=>?_)
 ·refine gg 1 rfl (Rn.q rfl (V.ldBA [_,_,_,_,_,_] V36 O36 rfl (D12.get 3 rfl) rfl rfl) ?_);obtain ⟨p35,e35,Y⟩:=bindE Y
  refine Rn.c0 (cK func118) (m_point_bare_sim (Z0:=All) e35 (T_api_Hist.relA (D12.get 1 rfl) (D12.get 2 rfl)) :) D12 λw35 _ D36=>?_
  refine Rn.q rfl (V.notB rfl) (gg 1 rfl ?_);exact K2 (!p35) _ _ sA (D36.pk [0,1,2,3]) Y
 refine gg 5 rfl ?_;exact K2 false _ _ sA (D12.pk [0,1,2,3]) Y
theorem m_num_Finite_sim {x0:UInt64} {r:Bool} (Y:m_num_Finite x0=some r)  :
 Calls prog 62 #[u64v x0] w λx w'=>x=.returned (.bool (r))∧Hp Z0 No w w' []:=by
 have D0:=Hp.nil Z0 No w;have hc0:=Calm.nil;refine eg func62 7 ?_;refine Rn.q rfl (V.o64 rfl rfl x0 (9218868437227405312:UInt64) rfl rfl (b64_and _ _ _)) (Rn.q rfl (V.neq rfl rfl) (gg 2 rfl ?_))
 cases Y
 exact Rn.R1 func62 ⟨rfl,D0.pk []⟩
theorem m_num_of_sim {x0:UInt64} {r:UInt64} (Y:m_num_of x0=some r)  :
 Calls prog 119 #[u64v x0] w λx w'=>x=.returned (.float .f64 (r).toNat)∧Hp Z0 No w w' []:=by
 have D0:=Hp.nil Z0 No w;have hc0:=Calm.nil;refine eg func119 7 ?_;refine Rn.q rfl (V.fltOf (a:=x0) func169 (by kernel_rfl) (by kernel_rfl) (by kernel_rfl) (by kernel_rfl) rfl) (gg 2 rfl ?_)
 cases Y
 exact Rn.R1 func119 ⟨rfl,D0.pk []⟩
theorem m_num_Less_sim {x0:UInt64} {x1:UInt64} {r:Bool} (Y:m_num_Less x0 x1=some r)  :
 Calls prog 63 #[u64v x0,u64v x1] w λx w'=>x=.returned (.bool (r))∧Hp Z0 No w w' []:=by
 have D0:=Hp.nil Z0 No w;have hc0:=Calm.nil;refine eg func63 7 ?_;obtain ⟨p1,e1,Y⟩:=bindE Y
 refine Rn.c0 (cK func119) (m_num_of_sim (Z0:=All) e1  :) D0 λw1 _ D2=>?_
 refine gg 1 rfl ?_;obtain ⟨p3,e3,Y⟩:=bindE Y
 refine Rn.c0 (cK func119) (m_num_of_sim (Z0:=All) e3  :) D2 λw3 _ D4=>?_
 refine Rn.q rfl (V.lssF (a:=p1) (b:=p3) rfl rfl) (gg 2 rfl ?_)
 cases Y
 exact Rn.R1 func63 ⟨rfl,D4.pk []⟩
theorem m_hist_sides_sim {x0:T_api_Hist} {r:T_arr2_api_Side} (Y:m_hist_sides x0=some r) (h0:T_api_Hist.rep.rel Z0 w cs0 x0) :
 Calls prog 120 #[.agg cs0.toArray] w λx w'=>∃ A_0_0 c_0_0 A_0_1 c_0_1,x=.returned (.agg [iv r.a0.Offset,.slice A_0_0 (r.a0.Counts).length c_0_0,iv r.a1.Offset,.slice A_0_1 (r.a1.Counts).length c_0_1].toArray)∧Hp Z0 No w w' [slR A_0_0 c_0_0 w64R r.a0.Counts,slR A_0_1 c_0_1 w64R r.a1.Counts]:=by
 have D0:=Hp.nil Z0 No w;have hc0:=Calm.nil;obtain ⟨Ar1,cr1,Ar3,cr3,rfl,fs1,fs3⟩:=T_api_Hist.relE h0;obtain ⟨D5,hc0⟩:=D0.kn hc0 fs1;obtain ⟨D6,hc0⟩:=D5.kn hc0 fs3;refine eg func120 2 ?_
 refine Rn.bx D6 λb7 w7 D9=>?_
 replace D9:=D9.nb
 refine Rn.al D9 Tryz.zeroValue175 λb10 w10 D12=>?_
 replace D12:=D12.nb;refine gg 4 rfl (Rn.q rfl (V.ldBA [_,_] V34 O34 rfl (D12.get 2 rfl) rfl rfl) (gg 1 rfl (Rn.q rfl (V.ldBA [_,_] V34 O34 rfl (D12.get 2 rfl) rfl rfl) (Rn.q rfl (V.bldA (cs:=[_,_,_,_]) _ ar175 (offs_range 2 2) rfl rfl) (Rn.sn D12 3 O175 λw13 D14=>?_)))));refine gg 1 rfl ?_;refine Rn.retG1 func120 rfl (rvC rfl V175 O175 (D14.get 3 rfl) rfl) ?_;obtain rfl:=someE Y;exact ⟨Ar1,cr1,Ar3,cr3,rfl,D14.pk [0,1]⟩
theorem m_hist_check_sim {x0:T_api_Side} {r:Int} (Y:m_hist_check x0=some r) (h0:T_api_Side.rep.rel Z0 w cs0 x0) :
 Calls prog 121 #[.agg cs0.toArray] w λx w'=>x=.returned (iv r)∧Hp Z0 No w w' []:=by
 have D0:=Hp.nil Z0 No w;have hc0:=Calm.nil;obtain ⟨Ar1,cr1,rfl,fs1⟩:=T_api_Side.relE h0;obtain ⟨D3,hc0⟩:=D0.kn hc0 fs1;refine eg func121 2 ?_
 refine Rn.bx D3 λb4 w4 D6=>?_
 replace D6:=D6.nb;refine gg 5 rfl (Rn.q rfl (V.ldB V32 rfl (D6.get 1 rfl) rfl) (Rn.q rfl (V.lenV U32 rfl) (gg 10 rfl ?_)));refine bD Y 4 5 (λh7 Y=>?_) (λh7 Y=>?_)
 ·cases Y
  exact Rn.R1 func121 ⟨rfl,D6.pk []⟩
 refine Rn.cutR [7] [(1,pt b4 0),(3,iv (x0.Counts.length:Int)),(17,.bool (decide (((x0.Counts.length:Int)=0)∧(x0.Offset≠0))))] (λK8=>?_) ?_
 ·refine Rn.partD (t:=13) rfl (λh9=>?_) (λh9=>?_)
  ·refine gg 1 rfl (Rn.q rfl (V.ldB V3 rfl (D6.get 1 rfl) rfl) (gg 2 rfl ?_));exact K8 _ sA
  refine gg 4 rfl ?_;exact K8 _ sA
 refine gg 2 rfl ?_;refine bD Y 4 6 (λh10 Y=>?_) (λh10 Y=>?_)
 ·cases Y
  exact Rn.R1 func121 ⟨rfl,D6.pk []⟩
 refine bD Y 4 3 (λh11 Y=>?_) (λh11 Y=>?_)
 ·cases Y
  exact Rn.R1 func121 ⟨rfl,D6.pk []⟩
 refine Rn.q rfl (V.ldB V32 rfl (D6.get 1 rfl) rfl) ?_;obtain ⟨z12,e12,Y⟩:=bindE Y;refine Rn.ixH D6 0 rfl e12 rfl rfl rfl U32 O31 rfl rfl rfl rfl ?_;rintro b12 o12 vs12 ⟨rfl,_⟩ D12;refine Rn.q rfl (V.ldR0 V31 rfl (D12.get 2 rfl).2 rfl) (Rn.q rfl (V.eql rfl rfl) (gg 1 rfl ?_));refine Rn.jQ D12 [0,1] Y (G:=Bool) [14] (λg=>[(1,pt b4 0),(3,iv (x0.Counts.length:Int)),(35,.bool (g))]) (λg=>[_,_]) (λj g=>j g) ?_ ?_
 ·rintro y14 w15 D15 Y
  try dsimp only at Y
  refine gg 2 rfl ?_;refine bS Y 4 3 (λh16 Y=>?_) (λh16 Y=>?_)
  ·cases Y
   exact Rn.R1 func121 ⟨rfl,D15.pk []⟩
  refine Rn.q rfl (V.ldB V3 rfl (D15.get 1 rfl) rfl) (gg 2 rfl ?_);refine Rn.jQ D15 [0,1] Y (G:=Bool) [11] (λg=>[(47,.bool (g))]) (λg=>[_,_]) (λj g=>j g) ?_ ?_
  ·rintro y17 w18 D18 Y
   try dsimp only at Y
   refine gg 2 rfl ?_;refine bS Y 4 6 (λh19 Y=>?_) (λh19 Y=>?_)
   ·cases Y
    exact Rn.R1 func121 ⟨rfl,D18.pk []⟩
   cases Y
   exact Rn.R1 func121 ⟨rfl,D18.pk []⟩
  intro j2 Y K2;refine askD Y (Rn.partD (t:=40) rfl) (λh20 Y=>?_) (λh20 Y=>?_)
  ·refine gg 7 rfl ?_;exact K2 true _ _ sA (D15.pk [0,1]) Y
  refine gg 1 rfl (Rn.q rfl (V.ldB V3 rfl (D15.get 1 rfl) rfl) (gg 5 rfl ?_));exact K2 (decide (x0.Offset>W64 (1073741824-(W64 ((x0.Counts.length:Int)-1))))) _ _ sA (D15.pk [0,1]) Y
 intro j1 Y K1;refine askD Y (Rn.partD (t:=27) rfl) (λh21 Y=>?_) (λh21 Y=>?_)
 ·refine gg 8 rfl ?_;exact K1 true _ _ sA (D12.pk [0,1]) Y
 refine gg 1 rfl (Rn.q rfl (V.ldB V32 rfl (D12.get 1 rfl) rfl) (gg 2 rfl ?_));obtain ⟨z22,e22,Y⟩:=bindE Y;refine Rn.ixH D12 0 rfl e22 rfl rfl rfl U32 O31 rfl rfl rfl rfl ?_;rintro b22 o22 vs22 ⟨rfl,_⟩ D22;refine Rn.q rfl (V.ldR0 V31 rfl (D22.get 3 rfl).2 rfl) (Rn.q rfl (V.eql rfl rfl) (gg 1 rfl ?_));exact K1 (decide (((z22).toNat:Int)=0)) _ _ sA (D22.pk [0,1]) Y
theorem m_hist_Total_sim {x0:T_api_Hist} {r:(UInt64×Bool)} (Y:m_hist_Total x0=some r) (h0:T_api_Hist.rep.rel Z0 w cs0 x0) :
 Calls prog 122 #[.agg cs0.toArray] w λx w'=>x=.returned (.tuple #[u64v r.1,.bool (r.2)])∧Hp Z0 No w w' []:=by
 have D0:=Hp.nil Z0 No w;have hc0:=Calm.nil;obtain ⟨Ar1,cr1,Ar3,cr3,rfl,fs1,fs3⟩:=T_api_Hist.relE h0;obtain ⟨D5,hc0⟩:=D0.kn hc0 fs1;obtain ⟨D6,hc0⟩:=D5.kn hc0 fs3;refine eg func122 2 ?_
 refine Rn.bx D6 λb7 w7 D9=>?_
 replace D9:=D9.nb;refine gg 6 rfl (Rn.q rfl (V.ldB V31 rfl (D9.get 2 rfl) rfl) (gg 6 rfl (Rn.q rfl (V.ldBA [_,_,_,_,_,_] V36 O36 rfl (D9.get 2 rfl) rfl rfl) ?_)));obtain ⟨p10,e10,Y⟩:=bindE Y;refine Rn.cq (cK func120) (m_hist_sides_sim (Z0:=D9.Z) e10 (T_api_Hist.relI (D9.get 0 rfl) (D9.get 1 rfl)) :) ?_;rintro _ w10 ⟨A10_0_0,c10_0_0,A10_0_1,c10_0_1,rfl,Q10⟩;refine ⟨_,rfl,?_⟩;have D13:=D9.callZ Q10;refine gg 2 rfl ?_;refine Rn.jF D13 [0,1,2] Y (G:=UInt64×UInt64) (λg=>[(4,u64v (g.1)),(5,u64v (g.2))]) (λg=>[_,_,_]) (λj g=>j g.1 g.2) ?_ ?_
 ·rintro ⟨y14,y15⟩ w16 D16 Y
  try dsimp only at Y
  refine gg 4 rfl (Rn.q rfl (V.neq rfl rfl) (gg 1 rfl ?_));refine bD Y 5 7 (λh17 Y=>?_) (λh17 Y=>?_)
  ·cases Y
   exact Rn.R2 func122 ⟨rfl,D16.pk []⟩
  cases Y
  exact Rn.R2 func122 ⟨rfl,D16.pk []⟩
 intro j1 Y K1;refine gg 1 rfl ?_;refine Rn.lF D13 [0,1,2,3,4] (G:=UInt64×UInt64×Int) (λg=>[(4,u64v (g.1)),(5,u64v (g.2.1)),(14,.agg [iv p10.a0.Offset,.slice A10_0_0 (p10.a0.Counts).length c10_0_0,iv p10.a1.Offset,.slice A10_0_1 (p10.a1.Counts).length c10_0_1].toArray),(15,iv (g.2.2))]) (λg=>[_,_,_,_,_]) (λn g=>m_hist_Total_L1 p10 j1 n g.1 g.2.1 g.2.2) fuel (x0.Zero,(0:UInt64),0) sA (D13.pk [0,1,2,3,4]) Y ?_;clear Y;rintro m21 ⟨y18,y19,y20⟩ w21 D21 Y N21;replace Y:m_hist_Total_L1 p10 j1 (m21+1) y18 y19 y20=some r:=Y;rw [m_hist_Total_L1] at Y;refine gg 5 rfl ?_;refine bD Y 5 1 (λh22 Y=>?_) (λh22 Y=>?_)
 ·obtain ⟨z23,e23,Y⟩:=bindE Y;obtain ⟨A24,c24,D24,Q24⟩:=Hp.idx2 (λx:T_api_Side=>x.Counts) e23 D21 3 4 rfl rfl;refine Rn.q rfl (V.arE (v:=.agg [iv z23.Offset,.slice A24 (z23.Counts).length c24].toArray) ar175 V34 rfl rfl (idx_bd e23 rfl) (by rcases Q24 with ⟨g1,g2,g3,g4⟩|⟨g1,g2,g3,g4⟩<;>first|(simp only [g1,g2,g3,g4];rfl)|(exfalso;omega))) (Rn.als rfl rfl rfl Tryz.zeroValue34 rfl O34 rfl rfl rfl rfl (by first|exact ones rfl|(simp [Value.oneCell'];done)) ?_);intro b26 w26 hb26 m26 e26;have D28:=(D24.addBox hb26 e26 m26).nb;refine gg 4 rfl (Rn.q rfl (V.ldB V32 rfl (D28.get 6 rfl) rfl) (Rn.q rfl (V.lenV U32 rfl) (gg 2 rfl ?_)));refine Rn.jF D28 [0,1,2,3,4,5,6] Y (G:=UInt64×UInt64) (λg=>[(4,u64v (g.1)),(5,u64v (g.2)),(14,.agg [iv p10.a0.Offset,.slice A10_0_0 (p10.a0.Counts).length c10_0_0,iv p10.a1.Offset,.slice A10_0_1 (p10.a1.Counts).length c10_0_1].toArray),(15,iv y20)]) (λg=>[_,_,_,_,_,_,_]) (λj g=>j g.1 g.2) ?_ ?_
  ·rintro ⟨y29,y30⟩ w31 D31 Y
   try dsimp only at Y
   refine gg 5 rfl ?_;exact N21 (y29,y30,(W64 (y20+1))) _ _ sA (D31.pk [0,1,2,3,4]) Y
  intro j2 Y K2;refine gg 1 rfl ?_;refine Rn.lF D28 [0,1,2,3,4,5,6] (G:=UInt64×UInt64×Int) (λg=>[(4,u64v (g.1)),(5,u64v (g.2.1)),(14,.agg [iv p10.a0.Offset,.slice A10_0_0 (p10.a0.Counts).length c10_0_0,iv p10.a1.Offset,.slice A10_0_1 (p10.a1.Counts).length c10_0_1].toArray),(15,iv y20),(19,.slice A24 (z23.Counts).length c24),(20,iv (z23.Counts.length:Int)),(21,iv (g.2.2))]) (λg=>[_,_,_,_,_,_,_]) (λn g=>m_hist_Total_L2 z23 j2 n g.1 g.2.1 g.2.2) fuel (y18,y19,0) sA (D28.pk [0,1,2,3,4,5,6]) Y ?_;clear Y;rintro m35 ⟨y32,y33,y34⟩ w35 D35 Y N35;replace Y:m_hist_Total_L2 z23 j2 (m35+1) y32 y33 y34=some r:=Y;rw [m_hist_Total_L2] at Y;refine gg 5 rfl ?_;refine bD Y 5 1 (λh36 Y=>?_) (λh36 Y=>?_)
  ·obtain ⟨z37,e37,Y⟩:=bindE Y;refine Rn.ixH D35 5 rfl e37 rfl rfl rfl U32 O31 rfl rfl rfl rfl ?_;rintro b37 o37 vs37 ⟨rfl,_⟩ D37;refine Rn.q rfl (V.ldR0 V31 rfl (D37.get 7 rfl).2 rfl) (gg 10 rfl (Rn.q rfl (V.add64 (a:=y32) (b:=z37) func170 (by kernel_rfl) (by kernel_rfl) (by kernel_rfl) (by kernel_rfl) rfl) (gg 9 rfl (Rn.q rfl (V.o64 rfl rfl y33 (cry y32 z37) rfl rfl (b64_or _ _ _)) (gg 7 rfl ?_)))));exact N35 ((y32+z37),(y33|||(cry y32 z37)),(W64 (y34+1))) _ _ sA (D37.pk [0,1,2,3,4,5,6]) Y
  exact K2 (y32,y33) _ _ sA (D35.pk [0,1,2,3,4,5,6]) Y
 exact K1 (y18,y19) _ _ sA (D21.pk [0,1,2]) Y
theorem m_hist_Check_sim {x0:T_api_Hist} {r:Int} (Y:m_hist_Check x0=some r) (h0:T_api_Hist.rep.rel Z0 w cs0 x0) :
 Calls prog 64 #[.agg cs0.toArray] w λx w'=>x=.returned (iv r)∧Hp Z0 No w w' []:=by
 have D0:=Hp.nil Z0 No w;have hc0:=Calm.nil;obtain ⟨Ar1,cr1,Ar3,cr3,rfl,fs1,fs3⟩:=T_api_Hist.relE h0;obtain ⟨D5,hc0⟩:=D0.kn hc0 fs1;obtain ⟨D6,hc0⟩:=D5.kn hc0 fs3;refine eg func64 2 ?_
 refine Rn.bx D6 λb7 w7 D9=>?_
 replace D9:=D9.nb;refine gg 6 rfl (Rn.q rfl (V.ldB V3 rfl (D9.get 2 rfl) rfl) (gg 2 rfl ?_));refine Rn.cutR [] [(1,pt b7 0),(15,.bool (decide ((x0.Scale<(-10))∨(x0.Scale>20))))] (λK10=>?_) ?_
 ·refine Rn.partD (t:=11) rfl (λh11=>?_) (λh11=>?_)
  ·refine gg 4 rfl ?_;exact K10 _ sA
  refine gg 1 rfl (Rn.q rfl (V.ldB V3 rfl (D9.get 2 rfl) rfl) (gg 2 rfl ?_));exact K10 _ sA
 refine gg 1 rfl ?_;refine bD Y 4 4 (λh12 Y=>?_) (λh12 Y=>?_)
 ·cases Y
  exact Rn.R1 func64 ⟨rfl,D9.pk []⟩
 refine Rn.q rfl (V.ldBA [_,_,_,_,_,_] V36 O36 rfl (D9.get 2 rfl) rfl rfl) ?_;obtain ⟨p13,e13,Y⟩:=bindE Y;refine Rn.cq (cK func120) (m_hist_sides_sim (Z0:=D9.Z) e13 (T_api_Hist.relI (D9.get 0 rfl) (D9.get 1 rfl)) :) ?_;rintro _ w13 ⟨A13_0_0,c13_0_0,A13_0_1,c13_0_1,rfl,Q13⟩;refine ⟨_,rfl,?_⟩;have D16:=D9.callZ Q13;refine gg 2 rfl ?_;refine Rn.jF D16 [0,1,2] Y (G:=Unit) (λg=>[(1,pt b7 0)]) (λg=>[_,_,_]) (λj g=>j ()) ?_ ?_
 ·rintro _ w17 D17 Y
  try dsimp only at Y
  refine gg 3 rfl (Rn.q rfl (V.ldBA [_,_,_,_,_,_] V36 O36 rfl (D17.get 2 rfl) rfl rfl) ?_);obtain ⟨p18,e18,Y⟩:=bindE Y
  refine Rn.c0 (cK func122) (m_hist_Total_sim (Z0:=All) e18 (T_api_Hist.relA (D17.get 0 rfl) (D17.get 1 rfl)) :) D17 λw18 _ D19=>?_
  refine gg 9 rfl (Rn.q rfl (V.notB rfl) (gg 1 rfl ?_));refine bS Y 4 5 (λh20 Y=>?_) (λh20 Y=>?_)
  ·cases Y
   exact Rn.R1 func64 ⟨rfl,D19.pk []⟩
  cases Y
  exact Rn.R1 func64 ⟨rfl,D19.pk []⟩
 intro j1 Y K1;refine gg 1 rfl ?_;refine Rn.lF D16 [0,1,2,3,4] (G:=Int) (λg=>[(1,pt b7 0),(17,.agg [iv p13.a0.Offset,.slice A13_0_0 (p13.a0.Counts).length c13_0_0,iv p13.a1.Offset,.slice A13_0_1 (p13.a1.Counts).length c13_0_1].toArray),(18,iv g)]) (λg=>[_,_,_,_,_]) (λn g=>m_hist_Check_L1 p13 j1 n g) fuel 0 sA (D16.pk [0,1,2,3,4]) Y ?_;clear Y;rintro m22 y21 w22 D22 Y N22;replace Y:m_hist_Check_L1 p13 j1 (m22+1) y21=some r:=Y;rw [m_hist_Check_L1] at Y;refine gg 5 rfl ?_;refine bD Y 5 1 (λh23 Y=>?_) (λh23 Y=>?_)
 ·obtain ⟨z24,e24,Y⟩:=bindE Y;obtain ⟨A25,c25,D25,Q25⟩:=Hp.idx2 (λx:T_api_Side=>x.Counts) e24 D22 3 4 rfl rfl;refine Rn.q rfl (V.arE (v:=.agg [iv z24.Offset,.slice A25 (z24.Counts).length c25].toArray) ar175 V34 rfl rfl (idx_bd e24 rfl) (by rcases Q25 with ⟨g1,g2,g3,g4⟩|⟨g1,g2,g3,g4⟩<;>first|(simp only [g1,g2,g3,g4];rfl)|(exfalso;omega))) (Rn.als rfl rfl rfl Tryz.zeroValue34 rfl O34 rfl rfl rfl rfl (by first|exact ones rfl|(simp [Value.oneCell'];done)) ?_);intro b27 w27 hb27 m27 e27;have D29:=(D25.addBox hb27 e27 m27).nb;refine gg 3 rfl (Rn.q rfl (V.ldBA [_,_] V34 O34 rfl (D29.get 6 rfl) rfl rfl) ?_);obtain ⟨p30,e30,Y⟩:=bindE Y
  refine Rn.c0 (cK func121) (m_hist_check_sim (Z0:=All) e30 (T_api_Side.relA (D29.get 5 rfl)) :) D29 λw30 _ D31=>?_
  refine gg 7 rfl ?_;refine bD Y 5 6 (λh32 Y=>?_) (λh32 Y=>?_)
  ·cases Y
   exact Rn.R1 func64 ⟨rfl,D31.pk []⟩
  exact N22 (W64 (y21+1)) _ _ sA (D31.pk [0,1,2,3,4]) Y
 exact K1 () _ _ sA (D22.pk [0,1,2]) Y
theorem m_point_Check_sim {x0:T_api_Point} {r:Int} (Y:m_point_Check x0=some r) (h0:T_api_Point.rep.rel Z0 w cs0 x0) :
 Calls prog 20 #[.agg cs0.toArray] w λx w'=>x=.returned (iv r)∧Hp Z0 No w w' []:=by
 have D0:=Hp.nil Z0 No w;have hc0:=Calm.nil;obtain ⟨Ar1,cr1,Ar3,cr3,Ar5,cr5,rfl,fs1,fs3,fs5⟩:=T_api_Point.relE h0;obtain ⟨D7,hc0⟩:=D0.kn hc0 fs1;obtain ⟨D8,hc0⟩:=D7.kn hc0 fs3;obtain ⟨D9,hc0⟩:=D8.kn hc0 fs5;refine eg func20 2 ?_
 refine Rn.bx D9 λb10 w10 D12=>?_
 replace D12:=D12.nb;refine gg 6 rfl (Rn.q rfl (V.ldB V9 rfl (D12.get 3 rfl) rfl) (gg 1 rfl (Rn.q rfl (V.ldB V30 rfl (D12.get 3 rfl) rfl) ?_)));obtain ⟨p13,e13,Y⟩:=bindE Y
 refine Rn.c0 (cK func57) (m_label_Check_sim (Z0:=All) e13 (slR_all (D12.get 0 rfl)) :) D12 λw13 _ D14=>?_
 refine gg 7 rfl ?_;refine bD Y 5 5 (λh15 Y=>?_) (λh15 Y=>?_)
 ·cases Y
  exact Rn.R1 func20 ⟨rfl,D14.pk []⟩
 refine Rn.q rfl (V.ldBA [_,_,_,_,_,_,_,_,_,_,_,_,_,_,_,_,_] V38 O38 rfl (D14.get 3 rfl) rfl rfl) ?_;obtain ⟨p16,e16,Y⟩:=bindE Y
 refine Rn.c0 (cK func58) (m_point_kinds_sim (Z0:=All) e16 (T_api_Point.relA (D14.get 0 rfl) (D14.get 1 rfl) (D14.get 2 rfl)) :) D14 λw16 _ D17=>?_
 refine Rn.q rfl (V.notB rfl) (gg 2 rfl ?_);refine bS Y 4 4 (λh18 Y=>?_) (λh18 Y=>?_)
 ·cases Y
  exact Rn.R1 func20 ⟨rfl,D17.pk []⟩
 refine Rn.q rfl (V.ldB V4 rfl (D17.get 3 rfl) rfl) (gg 1 rfl ?_);refine Rn.jQ D17 [0,1,2,3] Y (G:=Bool) [7] (λg=>[(1,pt b10 0),(23,.bool (g))]) (λg=>[_,_,_,_]) (λj g=>j g) ?_ ?_
 ·rintro y19 w20 D20 Y
  try dsimp only at Y
  refine gg 2 rfl ?_;refine Rn.jF D20 [0,1,2,3] Y (G:=Bool) (λg=>[(1,pt b10 0),(16,.bool (g))]) (λg=>[_,_,_,_]) (λj g=>j g) ?_ ?_
  ·rintro y21 w22 D22 Y
   try dsimp only at Y
   refine bS Y 4 2 (λh23 Y=>?_) (λh23 Y=>?_)
   ·cases Y
    exact Rn.R1 func20 ⟨rfl,D22.pk []⟩
   refine Rn.q rfl (V.ldBA [_,_,_,_,_,_,_,_,_,_,_,_,_,_,_,_,_] V38 O38 rfl (D22.get 3 rfl) rfl rfl) ?_;obtain ⟨p24,e24,Y⟩:=bindE Y
   refine Rn.c0 (cK func61) (m_point_own_sim (Z0:=All) e24 (T_api_Point.relA (D22.get 0 rfl) (D22.get 1 rfl) (D22.get 2 rfl)) :) D22 λw24 _ D25=>?_
   refine Rn.q rfl (V.notB rfl) (gg 2 rfl ?_);refine bS Y 4 3 (λh26 Y=>?_) (λh26 Y=>?_)
   ·cases Y
    exact Rn.R1 func20 ⟨rfl,D25.pk []⟩
   refine Rn.q rfl (V.ldB V4 rfl (D25.get 3 rfl) rfl) (gg 1 rfl ?_);refine Rn.cutR [7,8,9,10,11,12,13] [(1,pt b10 0),(38,.bool (decide ((x0.Mono=true)∧(x0.Kind=2))))] (λK27=>?_) ?_
   ·refine Rn.part (t:=34) rfl (λh28=>?_) (λh28=>?_)
    ·refine gg 1 rfl (Rn.q rfl (V.ldB V3 rfl (D25.get 3 rfl) rfl) (gg 2 rfl ?_));exact K27 _ sA
    refine gg 4 rfl ?_;exact K27 _ sA
   refine gg 1 rfl ?_;refine Rn.jQ D25 [0,1,2,3] Y (G:=Bool) [13] (λg=>[(1,pt b10 0),(44,.bool (g))]) (λg=>[_,_,_,_]) (λj g=>j g) ?_ ?_
   ·rintro y29 w30 D30 Y
    try dsimp only at Y
    refine gg 2 rfl ?_;refine bS Y 4 3 (λh31 Y=>?_) (λh31 Y=>?_)
    ·cases Y
     exact Rn.R1 func20 ⟨rfl,D30.pk []⟩
    refine Rn.q rfl (V.ldB V4 rfl (D30.get 3 rfl) rfl) (gg 1 rfl ?_);refine Rn.jQ D30 [0,1,2,3] Y (G:=Bool) [12] (λg=>[(1,pt b10 0),(57,.bool (g))]) (λg=>[_,_,_,_]) (λj g=>j g) ?_ ?_
    ·rintro y32 w33 D33 Y
     try dsimp only at Y
     refine gg 2 rfl ?_;refine bS Y 4 3 (λh34 Y=>?_) (λh34 Y=>?_)
     ·cases Y
      exact Rn.R1 func20 ⟨rfl,D33.pk []⟩
     refine Rn.q rfl (V.ldB V3 rfl (D33.get 3 rfl) rfl) (gg 3 rfl ?_);refine bD Y 3 6 (λh35 Y=>?_) (λh35 Y=>?_)
     ·refine Rn.q rfl (V.ldBA [_,_,_,_,_,_] V36 O36 rfl (D33.get 3 rfl) rfl rfl) ?_;obtain ⟨p36,e36,Y⟩:=bindE Y
      refine Rn.c0 (cK func64) (m_hist_Check_sim (Z0:=All) e36 (T_api_Hist.relA (D33.get 1 rfl) (D33.get 2 rfl)) :) D33 λw36 _ D37=>?_
      refine gg 2 rfl ?_
      cases Y
      exact Rn.R1 func20 ⟨rfl,D37.pk []⟩
     cases Y
     exact Rn.R1 func20 ⟨rfl,D33.pk []⟩
    intro j4 Y K4;refine askS Y (Rn.part (t:=48) rfl) (λh38 Y=>?_) (λh38 Y=>?_)
    ·refine gg 1 rfl (Rn.q rfl (V.ldB V3 rfl (D30.get 3 rfl) rfl) (gg 2 rfl ?_));refine Rn.jQ D30 [0,1,2,3] Y (G:=Bool) [11,12] (λg=>[(1,pt b10 0),(48,.bool true),(56,.bool (g))]) (λg=>[_,_,_,_]) (λj g=>j g) ?_ ?_
     ·rintro y39 w40 D40 Y
      try dsimp only at Y
      refine gg 1 rfl ?_;exact K4 y39 _ _ sA (D40.pk [0,1,2,3]) Y
     intro j5 Y K5;refine askD Y (Rn.partD (t:=52) rfl) (λh41 Y=>?_) (λh41 Y=>?_)
     ·refine gg 4 rfl ?_;exact K5 true _ _ sA (D30.pk [0,1,2,3]) Y
     refine gg 1 rfl (Rn.q rfl (V.ldB V31 rfl (D30.get 3 rfl) rfl) ?_);obtain ⟨p42,e42,Y⟩:=bindE Y
     refine Rn.c0 (cK func63) (m_num_Less_sim (Z0:=All) e42  :) D30 λw42 _ D43=>?_
     refine gg 1 rfl ?_;exact K5 p42 _ _ sA (D43.pk [0,1,2,3]) Y
    refine gg 9 rfl ?_;exact K4 false _ _ sA (D30.pk [0,1,2,3]) Y
   intro j3 Y K3;refine askD Y (Rn.partD (t:=39) rfl) (λh44 Y=>?_) (λh44 Y=>?_)
   ·refine gg 1 rfl (Rn.q rfl (V.ldB V31 rfl (D25.get 3 rfl) rfl) ?_);obtain ⟨p45,e45,Y⟩:=bindE Y
    refine Rn.c0 (cK func62) (m_num_Finite_sim (Z0:=All) e45  :) D25 λw45 _ D46=>?_
    refine Rn.q rfl (V.notB rfl) (gg 1 rfl ?_);exact K3 (!p45) _ _ sA (D46.pk [0,1,2,3]) Y
   refine gg 5 rfl ?_;exact K3 false _ _ sA (D25.pk [0,1,2,3]) Y
  intro j2 Y K2;refine bS Y 1 1 (λh47 Y=>?_) (λh47 Y=>?_)
  ·exact K2 y19 _ _ sA (D20.pk [0,1,2,3]) Y
  refine Rn.q rfl (V.ldBA [_,_,_,_,_,_,_,_,_,_,_,_,_,_,_,_,_] V38 O38 rfl (D20.get 3 rfl) rfl rfl) ?_;obtain ⟨p48,e48,Y⟩:=bindE Y
  refine Rn.c0 (cK func60) (m_point_times_sim (Z0:=All) e48 (T_api_Point.relA (D20.get 0 rfl) (D20.get 1 rfl) (D20.get 2 rfl)) :) D20 λw48 _ D49=>?_
  refine Rn.q rfl (V.notB rfl) (gg 2 rfl ?_);exact K2 (!p48) _ _ sA (D49.pk [0,1,2,3]) Y
 intro j1 Y K1;refine askS Y (Rn.part (t:=19) rfl) (λh50 Y=>?_) (λh50 Y=>?_)
 ·refine Rn.q rfl (V.ldBA [_,_,_,_,_,_,_,_,_,_,_,_,_,_,_,_,_] V38 O38 rfl (D17.get 3 rfl) rfl rfl) ?_;obtain ⟨p51,e51,Y⟩:=bindE Y
  refine Rn.c0 (cK func59) (m_point_sum_sim (Z0:=All) e51 (T_api_Point.relA (D17.get 0 rfl) (D17.get 1 rfl) (D17.get 2 rfl)) :) D17 λw51 _ D52=>?_
  refine Rn.q rfl (V.notB rfl) (gg 1 rfl ?_);exact K1 (!p51) _ _ sA (D52.pk [0,1,2,3]) Y
 refine gg 4 rfl ?_;exact K1 false _ _ sA (D17.pk [0,1,2,3]) Y
theorem m_slices_Clone_api_Pair_api_Pair_sim {x0:(List T_api_Pair)} {r:(List T_api_Pair)} (Y:m_slices_Clone_api_Pair_api_Pair x0=some r) (f0:(slR A0 c0 T_api_Pair.rep x0).H Z0 w) :
 Calls prog 146 #[.slice A0 (x0).length c0] w λx w'=>∃ A_0_0 c_0_0,x=.returned (.slice A_0_0 (r).length c_0_0)∧Hp Z0 No w w' [ownR 116 A_0_0 c_0_0 T_api_Pair.rep r]:=by
 exact clone_146 w A0 c0 x0 f0 Y
theorem m_cmp_isNaN_string_sim {x0:(List UInt8)} {r:Bool} (Y:m_cmp_isNaN_string x0=some r)  :
 Calls prog 195 #[Str (x0)] w λx w'=>x=.returned (.bool (r))∧Hp Z0 No w w' []:=by
 have D0:=Hp.nil Z0 No w;have hc0:=Calm.nil;refine eg func195 8 ?_;refine Rn.q rfl (V.neqS rfl rfl) (gg 2 rfl ?_)
 cases Y
 exact Rn.R1 func195 ⟨rfl,D0.pk []⟩
theorem m_cmp_Compare_string_sim {x0:(List UInt8)} {x1:(List UInt8)} {r:Int} (Y:m_cmp_Compare_string x0 x1=some r)  :
 Calls prog 150 #[Str (x0),Str (x1)] w λx w'=>x=.returned (iv r)∧Hp Z0 No w w' []:=by
 have D0:=Hp.nil Z0 No w;have hc0:=Calm.nil;refine eg func150 7 ?_;obtain ⟨p1,e1,Y⟩:=bindE Y
 refine Rn.c0 (cK func195) (m_cmp_isNaN_string_sim (Z0:=All) e1  :) D0 λw1 _ D2=>?_
 refine gg 5 rfl ?_;obtain ⟨p3,e3,Y⟩:=bindE Y
 refine Rn.c0 (cK func195) (m_cmp_isNaN_string_sim (Z0:=All) e3  :) D2 λw3 _ D4=>?_
 refine gg 7 rfl ?_;refine bS Y 5 6 (λh5 Y=>?_) (λh5 Y=>?_)
 ·refine bS Y 4 5 (λh6 Y=>?_) (λh6 Y=>?_)
  ·cases Y
   exact Rn.R1 func150 ⟨rfl,D4.pk []⟩
  cases Y
  exact Rn.R1 func150 ⟨rfl,D4.pk []⟩
 refine bS Y 4 6 (λh7 Y=>?_) (λh7 Y=>?_)
 ·cases Y
  exact Rn.R1 func150 ⟨rfl,D4.pk []⟩
 refine Rn.q rfl (V.lssS rfl rfl) (gg 1 rfl ?_);refine bS Y 4 6 (λh8 Y=>?_) (λh8 Y=>?_)
 ·cases Y
  exact Rn.R1 func150 ⟨rfl,D4.pk []⟩
 refine Rn.q rfl (V.gtrS rfl rfl) (gg 1 rfl ?_);refine bS Y 4 5 (λh9 Y=>?_) (λh9 Y=>?_)
 ·cases Y
  exact Rn.R1 func150 ⟨rfl,D4.pk []⟩
 cases Y
 exact Rn.R1 func150 ⟨rfl,D4.pk []⟩
theorem m_label_Sorted_1_sim {x0:T_api_Pair} {x1:T_api_Pair} {r:Int} (Y:m_label_Sorted_1 x0 x1=some r)  :
 Calls prog 149 #[.agg [Str (x0.Key),Str (x0.Val)].toArray,.agg [Str (x1.Key),Str (x1.Val)].toArray] w λx w'=>x=.returned (iv r)∧Hp Z0 No w w' []:=by
 have D0:=Hp.nil Z0 No w;have hc0:=Calm.nil;refine eg func149 2 ?_
 refine Rn.bx D0 λb1 w1 D3=>?_
 replace D3:=D3.nb
 refine Rn.bx D3 λb4 w4 D6=>?_
 replace D6:=D6.nb;refine gg 5 rfl (Rn.q rfl (V.ldB V9 rfl (D6.get 0 rfl) rfl) (gg 1 rfl (Rn.q rfl (V.ldB V9 rfl (D6.get 1 rfl) rfl) ?_)));obtain ⟨p7,e7,Y⟩:=bindE Y
 refine Rn.c0 (cK func150) (m_cmp_Compare_string_sim (Z0:=All) e7  :) D6 λw7 _ D8=>?_
 refine gg 2 rfl ?_
 cases Y
 exact Rn.R1 func149 ⟨rfl,D8.pk []⟩
theorem m_slices_insertionSortCmpFunc_api_Pair_s2_sim {x0:(List T_api_Pair)} {x1:Int} {x2:Int} {r:(List T_api_Pair)} (Y:m_slices_insertionSortCmpFunc_api_Pair_s2 x0 x1 x2=some r) (hL:Lent Z0 w [ownR 116 A0 c0 T_api_Pair.rep x0]) :
 Calls prog 218 #[.slice A0 (x0).length c0,iv x1,iv x2,.func (.func 149) #[] [].toArray] w λx w'=>x=.returned (.tuple #[])∧Hp Z0 (LS [ownR 116 A0 c0 T_api_Pair.rep x0]) w w' [ownR 116 A0 c0 T_api_Pair.rep r]∧(r).length=(x0).length:=by
 have D0:=hL.start;refine eg func218 6 ?_;obtain ⟨j1,hj1,Y⟩:=jnE Y;refine Rn.joinG (r:=r) (G:=(List T_api_Pair)) (λg=>[]) (λg w'=>Hp Z0 (LS [ownR 116 A0 c0 T_api_Pair.rep x0]) w w' [ownR 116 A0 c0 T_api_Pair.rep g]∧g.length=(x0).length) (λg=>j1 g) ?_ ?_
 ·subst hj1;clear Y;rintro y2 w3 ⟨D3,hl2⟩ Y;replace hl2:y2.length=(x0).length:=hl2
  try dsimp only at Y
  refine Rn.end0 func218 rfl ?_;obtain rfl:=someE Y;exact ⟨rfl,D3.pk [0],hl2⟩
 intro K1;clear hj1;refine gg 1 rfl ?_;refine Rn.loopF (G:=(List T_api_Pair)×Int) (λg=>[(0,.slice A0 (x0).length c0),(1,iv x1),(2,iv x2),(3,.func (.func 149) #[] [].toArray),(8,iv (g.2))]) (λg w'=>Hp Z0 (LS [ownR 116 A0 c0 T_api_Pair.rep x0]) w w' [ownR 116 A0 c0 T_api_Pair.rep (g.1)]∧(g.1).length=(x0).length) (λn g=>m_slices_insertionSortCmpFunc_api_Pair_s2_L1 x1 x2 j1 n g.1 g.2) fuel (x0,(W64 (x1+1))) sA (⟨D0.pk [0],rfl⟩) Y (λ_=>rfl) ?_;clear Y;rintro m6 ⟨y4,y5⟩ w6 ⟨D6,hl4⟩ Y N6;replace hl4:y4.length=(x0).length:=hl4;replace Y:m_slices_insertionSortCmpFunc_api_Pair_s2_L1 x1 x2 j1 (m6+1) y4 y5=some r:=Y;rw [m_slices_insertionSortCmpFunc_api_Pair_s2_L1] at Y;refine gg 7 rfl ?_;refine bD Y 8 1 (λh7 Y=>?_) (λh7 Y=>?_)
 ·obtain ⟨j2,hj2,Y⟩:=jnE Y;refine Rn.joinG (r:=r) (G:=(List T_api_Pair)) (λg=>[(0,.slice A0 (x0).length c0),(1,iv x1),(2,iv x2),(3,.func (.func 149) #[] [].toArray),(8,iv y5)]) (λg w'=>Hp Z0 (LS [ownR 116 A0 c0 T_api_Pair.rep x0]) w w' [ownR 116 A0 c0 T_api_Pair.rep g]∧g.length=(x0).length) (λg=>j2 g) ?_ ?_
  ·subst hj2;clear Y;rintro y8 w9 ⟨D9,hl8⟩ Y;replace hl8:y8.length=(x0).length:=hl8
   try dsimp only at Y
   refine gg 6 rfl ?_;exact N6 (y8,(W64 (y5+1))) _ _ sA (⟨D9.pk [0],hl8⟩) Y
  intro K2;clear hj2;refine gg 1 rfl ?_;refine Rn.loopF (G:=(List T_api_Pair)×Int) (λg=>[(0,.slice A0 (x0).length c0),(1,iv x1),(2,iv x2),(3,.func (.func 149) #[] [].toArray),(8,iv y5),(9,iv (g.2))]) (λg w'=>Hp Z0 (LS [ownR 116 A0 c0 T_api_Pair.rep x0]) w w' [ownR 116 A0 c0 T_api_Pair.rep (g.1)]∧(g.1).length=(x0).length) (λn g=>m_slices_insertionSortCmpFunc_api_Pair_s2_L2 x1 j2 n g.1 g.2) fuel (y4,y5) sA (⟨D6.pk [0],hl4⟩) Y (λ_=>rfl) ?_;clear Y;rintro m12 ⟨y10,y11⟩ w12 ⟨D12,hl10⟩ Y N12;replace hl10:y10.length=(x0).length:=hl10;replace Y:m_slices_insertionSortCmpFunc_api_Pair_s2_L2 x1 j2 (m12+1) y10 y11=some r:=Y;rw [m_slices_insertionSortCmpFunc_api_Pair_s2_L2] at Y;refine gg 2 rfl ?_;refine Rn.jF D12 [0] Y (G:=Bool) (λg=>[(0,.slice A0 (x0).length c0),(1,iv x1),(2,iv x2),(3,.func (.func 149) #[] [].toArray),(8,iv y5),(9,iv y11),(34,.bool (g))]) (λg=>[_]) (λj g=>j g) ?_ ?_
  ·rintro y13 w14 D14 Y
   try dsimp only at Y
   refine bS Y 3 1 (λh15 Y=>?_) (λh15 Y=>?_)
   ·refine Rn.drawX rfl D14 ?_;intro w16 D16;refine dq [0,1,2,3,4,5,6,7] ?_;obtain ⟨z17,e17,Y⟩:=bindE Y;obtain ⟨kk17,ke17,kz17,kl17⟩:=idxE e17;obtain ⟨g17,vs17,hA17,hR17,hrel17⟩:=D16.ownAt 0 rfl kz17;subst hA17;obtain rfl:=T_api_Pair.relE hrel17;refine RH.tk 8 rfl (λw' hDr=>V.ixE kk17 U30 O116 rfl rfl ke17 (Nat.lt_of_lt_of_eq kl17 hl10)) ?_;refine dq [10,11] ?_;obtain ⟨z18,e18,Y⟩:=bindE Y;obtain ⟨kk18,ke18,kz18,kl18⟩:=idxE e18;obtain ⟨vs18,hR18,hrel18⟩:=D16.ownAtL 0 rfl kz18;obtain rfl:=T_api_Pair.relE hrel18;refine RH.tk 12 rfl (λw' hDr=>V.ixE kk18 U30 O116 rfl rfl ke18 (Nat.lt_of_lt_of_eq kl18 hl10)) ?_;refine RH.two 9 13 (by kernel_rfl) rfl rfl rfl rfl (V.ldA (vs:=[_,_]) V116 O116 rfl (Rd.pre hR17 2) rfl) rfl rfl rfl rfl (V.ldA (vs:=[_,_]) V116 O116 rfl (Rd.pre hR18 2) rfl) ?_ ?_
    ·refine RH.ho 13 rfl (V.ldA (vs:=[_,_]) V116 O116 rfl (Rd.pre hR18 2) rfl) ?_;obtain ⟨z20,e20,Y⟩:=bindE Y;obtain ⟨kk20,ke20,kz20,kl20⟩:=idxE e20;obtain ⟨vs20,hR20,hrel20⟩:=D16.ownAtL 0 rfl kz20;obtain rfl:=T_api_Pair.relE hrel20;refine RH.ho 14 rfl (V.ixE kk20 U30 O116 rfl rfl ke20 (Nat.lt_of_lt_of_eq kl20 hl10)) ?_;refine RH.stI 15 (by kernel_rfl) D16 0 rfl ke20 kl20 rfl rfl O116 rfl rfl rfl (vs:=[Str (z17.Key),Str (z17.Val)]) rfl ((T_api_Pair.relI)) ?_;intro w21 D21;refine ⟨trivial,?_⟩;obtain ⟨z22,e22,Y⟩:=bindE Y;obtain ⟨kk22,ke22,kz22,kl22⟩:=idxE e22;obtain ⟨vs22,hR22,hrel22⟩:=D21.ownAtL 0 rfl kz22;obtain rfl:=T_api_Pair.relE hrel22;refine RH.ho 16 rfl (V.ixE kk22 U30 O116 rfl rfl ke22 (Nat.lt_of_lt_of_eq kl22 ((length_setI _ _ _).trans hl10))) ?_;refine RH.stI 17 (by kernel_rfl) D21 0 rfl ke22 kl22 rfl rfl O116 rfl rfl rfl (vs:=[Str (z18.Key),Str (z18.Val)]) rfl ((T_api_Pair.relI)) ?_;intro w23 D23;refine ⟨trivial,?_⟩;refine RH.dn ?_;refine gg 6 rfl ?_;exact N12 ((setI (setI y10 y11 z17) (W64 (y11-1)) z18),(W64 (y11-1))) _ _ sA (⟨D23.pk [0],((length_setI _ _ _).trans ((length_setI _ _ _).trans hl10))⟩) Y
    refine RH.ho 9 rfl (V.ldA (vs:=[_,_]) V116 O116 rfl (Rd.pre hR17 2) rfl) ?_;obtain ⟨z24,e24,Y⟩:=bindE Y;obtain ⟨kk24,ke24,kz24,kl24⟩:=idxE e24;obtain ⟨vs24,hR24,hrel24⟩:=D16.ownAtL 0 rfl kz24;obtain rfl:=T_api_Pair.relE hrel24;refine RH.ho 14 rfl (V.ixE kk24 U30 O116 rfl rfl ke24 (Nat.lt_of_lt_of_eq kl24 hl10)) ?_;refine RH.stI 15 (by kernel_rfl) D16 0 rfl ke24 kl24 rfl rfl O116 rfl rfl rfl (vs:=[Str (z17.Key),Str (z17.Val)]) rfl ((T_api_Pair.relI)) ?_;intro w25 D25;refine ⟨trivial,?_⟩;obtain ⟨z26,e26,Y⟩:=bindE Y;obtain ⟨kk26,ke26,kz26,kl26⟩:=idxE e26;obtain ⟨vs26,hR26,hrel26⟩:=D25.ownAtL 0 rfl kz26;obtain rfl:=T_api_Pair.relE hrel26;refine RH.ho 16 rfl (V.ixE kk26 U30 O116 rfl rfl ke26 (Nat.lt_of_lt_of_eq kl26 ((length_setI _ _ _).trans hl10))) ?_;refine RH.stI 17 (by kernel_rfl) D25 0 rfl ke26 kl26 rfl rfl O116 rfl rfl rfl (vs:=[Str (z18.Key),Str (z18.Val)]) rfl ((T_api_Pair.relI)) ?_;intro w27 D27;refine ⟨trivial,?_⟩;refine RH.dn ?_;refine gg 6 rfl ?_;exact N12 ((setI (setI y10 y11 z17) (W64 (y11-1)) z18),(W64 (y11-1))) _ _ sA (⟨D27.pk [0],((length_setI _ _ _).trans ((length_setI _ _ _).trans hl10))⟩) Y
   exact K2 y10 _ _ sA (⟨D14.pk [0],hl10⟩) Y
  intro j3 Y K3;refine Rn.drawH rfl D12 ?_;intro w28 D28;refine dq [0,1,2,3] ?_;refine askD Y (RH.partD (t:=21) rfl) (λh29 Y=>?_) (λh29 Y=>?_)
  ·refine dq [4,5,6] ?_;obtain ⟨z30,e30,Y⟩:=bindE Y;obtain ⟨kk30,ke30,kz30,kl30⟩:=idxE e30;obtain ⟨g30,vs30,hA30,hR30,hrel30⟩:=D28.ownAt 0 rfl kz30;subst hA30;obtain rfl:=T_api_Pair.relE hrel30;refine RH.tk 7 rfl (λw' hDr=>V.ixE kk30 U30 O116 rfl rfl ke30 (Nat.lt_of_lt_of_eq kl30 hl10)) ?_;refine RH.tk 8 rfl (λw' hDr=>V.ldA (vs:=[_,_]) V116 O116 rfl (Rd.pre (hR30.ext hDr) 2) rfl) ?_;refine dq [9,10,11] ?_;obtain ⟨z31,e31,Y⟩:=bindE Y;obtain ⟨kk31,ke31,kz31,kl31⟩:=idxE e31;obtain ⟨vs31,hR31,hrel31⟩:=D28.ownAtL 0 rfl kz31;obtain rfl:=T_api_Pair.relE hrel31;refine RH.ho 12 rfl (V.ixE kk31 U30 O116 rfl rfl ke31 (Nat.lt_of_lt_of_eq kl31 hl10)) ?_;refine RH.ho 13 rfl (V.ldA (vs:=[_,_]) V116 O116 rfl (Rd.pre hR31 2) rfl) ?_;obtain ⟨p32,e32,Y⟩:=bindE Y;refine RH.clV (cK func149) 14 (by kernel_rfl) rfl rfl rfl rfl rfl (m_label_Sorted_1_sim (Z0:=All) e32  :) ?_;rintro _ w32 ⟨rfl,Q32⟩;refine ⟨_,rfl,((Ext.refl _).trans Q32.fr),?_⟩;have D33:=D28.call0 Q32;refine dq [15,16] ?_;refine RH.dn ?_;exact K3 (decide (p32<0)) _ _ sA (D33.pk [0]) Y
  refine dq [4,5,6,7,8,9,10,11,12,13,14,15,16] ?_;refine RH.dn ?_;exact K3 false _ _ sA (D28.pk [0]) Y
 exact K1 y4 _ _ (sb trivial) (⟨D6.pk [0],hl4⟩) Y
theorem m_slices_swapRangeCmpFunc_api_Pair_s2_sim {x0:(List T_api_Pair)} {x1:Int} {x2:Int} {x3:Int} {r:(List T_api_Pair)} (Y:m_slices_swapRangeCmpFunc_api_Pair_s2 x0 x1 x2 x3=some r) (hL:Lent Z0 w [ownR 116 A0 c0 T_api_Pair.rep x0]) :
 Calls prog 251 #[.slice A0 (x0).length c0,iv x1,iv x2,iv x3,.func (.func 149) #[] [].toArray] w λx w'=>x=.returned (.tuple #[])∧Hp Z0 (LS [ownR 116 A0 c0 T_api_Pair.rep x0]) w w' [ownR 116 A0 c0 T_api_Pair.rep r]∧(r).length=(x0).length:=by
 have D0:=hL.start;refine eg func251 4 ?_;obtain ⟨j1,hj1,Y⟩:=jnE Y;refine Rn.joinG (r:=r) (G:=(List T_api_Pair)) (λg=>[]) (λg w'=>Hp Z0 (LS [ownR 116 A0 c0 T_api_Pair.rep x0]) w w' [ownR 116 A0 c0 T_api_Pair.rep g]∧g.length=(x0).length) (λg=>j1 g) ?_ ?_
 ·subst hj1;clear Y;rintro y2 w3 ⟨D3,hl2⟩ Y;replace hl2:y2.length=(x0).length:=hl2
  try dsimp only at Y
  refine Rn.end0 func251 rfl ?_;obtain rfl:=someE Y;exact ⟨rfl,D3.pk [0],hl2⟩
 intro K1;clear hj1;refine gg 1 rfl ?_;refine Rn.loopF (G:=(List T_api_Pair)×Int) (λg=>[(0,.slice A0 (x0).length c0),(1,iv x1),(2,iv x2),(3,iv x3),(10,iv (g.2))]) (λg w'=>Hp Z0 (LS [ownR 116 A0 c0 T_api_Pair.rep x0]) w w' [ownR 116 A0 c0 T_api_Pair.rep (g.1)]∧(g.1).length=(x0).length) (λn g=>m_slices_swapRangeCmpFunc_api_Pair_s2_L1 x1 x2 x3 j1 n g.1 g.2) fuel (x0,0) sA (⟨D0.pk [0],rfl⟩) Y (λ_=>rfl) ?_;clear Y;rintro m6 ⟨y4,y5⟩ w6 ⟨D6,hl4⟩ Y N6;replace hl4:y4.length=(x0).length:=hl4;replace Y:m_slices_swapRangeCmpFunc_api_Pair_s2_L1 x1 x2 x3 j1 (m6+1) y4 y5=some r:=Y;rw [m_slices_swapRangeCmpFunc_api_Pair_s2_L1] at Y;refine gg 7 rfl ?_;refine bD Y 3 1 (λh7 Y=>?_) (λh7 Y=>?_)
 ·refine Rn.drawX rfl D6 ?_;intro w8 D8;refine dq [0,1,2,3,4,5,6,7,8,9,10,11] ?_;obtain ⟨z9,e9,Y⟩:=bindE Y;obtain ⟨kk9,ke9,kz9,kl9⟩:=idxE e9;obtain ⟨g9,vs9,hA9,hR9,hrel9⟩:=D8.ownAt 0 rfl kz9;subst hA9;obtain rfl:=T_api_Pair.relE hrel9;refine RH.tk 12 rfl (λw' hDr=>V.ixE kk9 U30 O116 rfl rfl ke9 (Nat.lt_of_lt_of_eq kl9 hl4)) ?_;refine dq [14,15,16,17] ?_;obtain ⟨z10,e10,Y⟩:=bindE Y;obtain ⟨kk10,ke10,kz10,kl10⟩:=idxE e10;obtain ⟨vs10,hR10,hrel10⟩:=D8.ownAtL 0 rfl kz10;obtain rfl:=T_api_Pair.relE hrel10;refine RH.tk 18 rfl (λw' hDr=>V.ixE kk10 U30 O116 rfl rfl ke10 (Nat.lt_of_lt_of_eq kl10 hl4)) ?_;refine RH.two 13 19 (by kernel_rfl) rfl rfl rfl rfl (V.ldA (vs:=[_,_]) V116 O116 rfl (Rd.pre hR9 2) rfl) rfl rfl rfl rfl (V.ldA (vs:=[_,_]) V116 O116 rfl (Rd.pre hR10 2) rfl) ?_ ?_
  ·refine RH.ho 19 rfl (V.ldA (vs:=[_,_]) V116 O116 rfl (Rd.pre hR10 2) rfl) ?_;obtain ⟨z12,e12,Y⟩:=bindE Y;obtain ⟨kk12,ke12,kz12,kl12⟩:=idxE e12;obtain ⟨vs12,hR12,hrel12⟩:=D8.ownAtL 0 rfl kz12;obtain rfl:=T_api_Pair.relE hrel12;refine RH.ho 20 rfl (V.ixE kk12 U30 O116 rfl rfl ke12 (Nat.lt_of_lt_of_eq kl12 hl4)) ?_;refine RH.stI 21 (by kernel_rfl) D8 0 rfl ke12 kl12 rfl rfl O116 rfl rfl rfl (vs:=[Str (z9.Key),Str (z9.Val)]) rfl ((T_api_Pair.relI)) ?_;intro w13 D13;refine ⟨trivial,?_⟩;obtain ⟨z14,e14,Y⟩:=bindE Y;obtain ⟨kk14,ke14,kz14,kl14⟩:=idxE e14;obtain ⟨vs14,hR14,hrel14⟩:=D13.ownAtL 0 rfl kz14;obtain rfl:=T_api_Pair.relE hrel14;refine RH.ho 22 rfl (V.ixE kk14 U30 O116 rfl rfl ke14 (Nat.lt_of_lt_of_eq kl14 ((length_setI _ _ _).trans hl4))) ?_;refine RH.stI 23 (by kernel_rfl) D13 0 rfl ke14 kl14 rfl rfl O116 rfl rfl rfl (vs:=[Str (z10.Key),Str (z10.Val)]) rfl ((T_api_Pair.relI)) ?_;intro w15 D15;refine ⟨trivial,?_⟩;refine RH.dn ?_;refine gg 6 rfl ?_;exact N6 ((setI (setI y4 (W64 (x1+y5)) z9) (W64 (x2+y5)) z10),(W64 (y5+1))) _ _ sA (⟨D15.pk [0],((length_setI _ _ _).trans ((length_setI _ _ _).trans hl4))⟩) Y
  refine RH.ho 13 rfl (V.ldA (vs:=[_,_]) V116 O116 rfl (Rd.pre hR9 2) rfl) ?_;obtain ⟨z16,e16,Y⟩:=bindE Y;obtain ⟨kk16,ke16,kz16,kl16⟩:=idxE e16;obtain ⟨vs16,hR16,hrel16⟩:=D8.ownAtL 0 rfl kz16;obtain rfl:=T_api_Pair.relE hrel16;refine RH.ho 20 rfl (V.ixE kk16 U30 O116 rfl rfl ke16 (Nat.lt_of_lt_of_eq kl16 hl4)) ?_;refine RH.stI 21 (by kernel_rfl) D8 0 rfl ke16 kl16 rfl rfl O116 rfl rfl rfl (vs:=[Str (z9.Key),Str (z9.Val)]) rfl ((T_api_Pair.relI)) ?_;intro w17 D17;refine ⟨trivial,?_⟩;obtain ⟨z18,e18,Y⟩:=bindE Y;obtain ⟨kk18,ke18,kz18,kl18⟩:=idxE e18;obtain ⟨vs18,hR18,hrel18⟩:=D17.ownAtL 0 rfl kz18;obtain rfl:=T_api_Pair.relE hrel18;refine RH.ho 22 rfl (V.ixE kk18 U30 O116 rfl rfl ke18 (Nat.lt_of_lt_of_eq kl18 ((length_setI _ _ _).trans hl4))) ?_;refine RH.stI 23 (by kernel_rfl) D17 0 rfl ke18 kl18 rfl rfl O116 rfl rfl rfl (vs:=[Str (z10.Key),Str (z10.Val)]) rfl ((T_api_Pair.relI)) ?_;intro w19 D19;refine ⟨trivial,?_⟩;refine RH.dn ?_;refine gg 6 rfl ?_;exact N6 ((setI (setI y4 (W64 (x1+y5)) z9) (W64 (x2+y5)) z10),(W64 (y5+1))) _ _ sA (⟨D19.pk [0],((length_setI _ _ _).trans ((length_setI _ _ _).trans hl4))⟩) Y
 exact K1 y4 _ _ (sb trivial) (⟨D6.pk [0],hl4⟩) Y
theorem m_slices_rotateCmpFunc_api_Pair_s2_sim {x0:(List T_api_Pair)} {x1:Int} {x2:Int} {x3:Int} {r:(List T_api_Pair)} (Y:m_slices_rotateCmpFunc_api_Pair_s2 x0 x1 x2 x3=some r) (hL:Lent Z0 w [ownR 116 A0 c0 T_api_Pair.rep x0]) :
 Calls prog 239 #[.slice A0 (x0).length c0,iv x1,iv x2,iv x3,.func (.func 149) #[] [].toArray] w λx w'=>x=.returned (.tuple #[])∧Hp Z0 (LS [ownR 116 A0 c0 T_api_Pair.rep x0]) w w' [ownR 116 A0 c0 T_api_Pair.rep r]∧(r).length=(x0).length:=by
 have D0:=hL.start;refine eg func239 15 ?_;obtain ⟨j1,hj1,Y⟩:=jnE Y;refine Rn.joinG (r:=r) (G:=(List T_api_Pair)×Int) (λg=>[(0,.slice A0 (x0).length c0),(2,iv x2),(4,.func (.func 149) #[] [].toArray),(10,iv (g.2))]) (λg w'=>Hp Z0 (LS [ownR 116 A0 c0 T_api_Pair.rep x0]) w w' [ownR 116 A0 c0 T_api_Pair.rep (g.1)]∧(g.1).length=(x0).length) (λg=>j1 g.1 g.2) ?_ ?_
 ·subst hj1;clear Y;rintro ⟨y2,y3⟩ w4 ⟨D4,hl2⟩ Y;replace hl2:y2.length=(x0).length:=hl2
  try dsimp only at Y
  refine gg 8 rfl ?_;refine Rn.say (t:=50) (.slice A0 (y2).length c0) rfl (congrArg (λ(n0:Nat)=>Value.slice A0 n0 c0) (show (x0).length=(y2).length from (hl2).symm.trans (rfl))) ?_;obtain ⟨p5,e5,Y⟩:=bindE Y;have D6:=D4.cu [] [0];refine Rn.cq (cK func251) (m_slices_swapRangeCmpFunc_api_Pair_s2_sim e5 D6.lend :) ?_;rintro _ w5 ⟨rfl,Q5,hl5_0⟩;refine ⟨_,rfl,?_⟩;have D8:=D6.callAZ Q5;refine gg 1 rfl ?_;refine Rn.end0 func239 rfl ?_;obtain rfl:=someE Y;exact ⟨rfl,D8.pk [0],(hl5_0.trans hl2)⟩
 intro K1;clear hj1;refine gg 1 rfl ?_;refine Rn.loopF (G:=(List T_api_Pair)×Int×Int) (λg=>[(0,.slice A0 (x0).length c0),(2,iv x2),(4,.func (.func 149) #[] [].toArray),(10,iv (g.2.1)),(11,iv (g.2.2))]) (λg w'=>Hp Z0 (LS [ownR 116 A0 c0 T_api_Pair.rep x0]) w w' [ownR 116 A0 c0 T_api_Pair.rep (g.1)]∧(g.1).length=(x0).length) (λn g=>m_slices_rotateCmpFunc_api_Pair_s2_L1 x2 j1 n g.1 g.2.1 g.2.2) fuel (x0,(W64 (x2-x1)),(W64 (x3-x2))) sA (⟨D0.pk [0],rfl⟩) Y (λ_=>rfl) ?_;clear Y;rintro m12 ⟨y9,y10,y11⟩ w12 ⟨D12,hl9⟩ Y N12;replace hl9:y9.length=(x0).length:=hl9;replace Y:m_slices_rotateCmpFunc_api_Pair_s2_L1 x2 j1 (m12+1) y9 y10 y11=some r:=Y;rw [m_slices_rotateCmpFunc_api_Pair_s2_L1] at Y;refine gg 7 rfl ?_;refine bD Y 8 1 (λh13 Y=>?_) (λh13 Y=>?_)
 ·refine bD Y 9 13 (λh14 Y=>?_) (λh14 Y=>?_)
  ·refine Rn.say (t:=0) (.slice A0 (y9).length c0) rfl (congrArg (λ(n0:Nat)=>Value.slice A0 n0 c0) (show (x0).length=(y9).length from (hl9).symm.trans (rfl))) ?_;refine Rn.say (t:=24) (.slice A0 (y9).length c0) rfl (congrArg (λ(n0:Nat)=>Value.slice A0 n0 c0) (show (x0).length=(y9).length from (hl9).symm.trans (rfl))) ?_;obtain ⟨p15,e15,Y⟩:=bindE Y;have D16:=D12.cu [] [0];refine Rn.cq (cK func251) (m_slices_swapRangeCmpFunc_api_Pair_s2_sim e15 D16.lend :) ?_;rintro _ w15 ⟨rfl,Q15,hl15_0⟩;refine ⟨_,rfl,?_⟩;have D18:=D16.callAZ Q15;refine gg 8 rfl ?_;refine Rn.say (t:=0) (.slice A0 (x0).length c0) rfl (congrArg (λ(n0:Nat)=>Value.slice A0 n0 c0) (show (y9).length=(x0).length from (hl15_0).symm.trans ((hl15_0.trans hl9)))) ?_;exact N12 (p15,(W64 (y10-y11)),y11) _ _ sA (⟨D18.pk [0],(hl15_0.trans hl9)⟩) Y
  refine Rn.say (t:=0) (.slice A0 (y9).length c0) rfl (congrArg (λ(n0:Nat)=>Value.slice A0 n0 c0) (show (x0).length=(y9).length from (hl9).symm.trans (rfl))) ?_;refine Rn.say (t:=35) (.slice A0 (y9).length c0) rfl (congrArg (λ(n0:Nat)=>Value.slice A0 n0 c0) (show (x0).length=(y9).length from (hl9).symm.trans (rfl))) ?_;obtain ⟨p19,e19,Y⟩:=bindE Y;have D20:=D12.cu [] [0];refine Rn.cq (cK func251) (m_slices_swapRangeCmpFunc_api_Pair_s2_sim e19 D20.lend :) ?_;rintro _ w19 ⟨rfl,Q19,hl19_0⟩;refine ⟨_,rfl,?_⟩;have D22:=D20.callAZ Q19;refine gg 8 rfl ?_;refine Rn.say (t:=0) (.slice A0 (x0).length c0) rfl (congrArg (λ(n0:Nat)=>Value.slice A0 n0 c0) (show (y9).length=(x0).length from (hl19_0).symm.trans ((hl19_0.trans hl9)))) ?_;exact N12 (p19,y10,(W64 (y11-y10))) _ _ sA (⟨D22.pk [0],(hl19_0.trans hl9)⟩) Y
 exact K1 (y9,y10) _ _ sA (⟨D12.pk [0],hl9⟩) Y
theorem m_slices_symMergeCmpFunc_api_Pair_s2_sim {x0:(List T_api_Pair)} {x1:Int} {x2:Int} {x3:Int} {r:(List T_api_Pair)} (Y:m_slices_symMergeCmpFunc_api_Pair_s2 x0 x1 x2 x3=some r) (hL:Lent Z0 w [ownR 116 A0 c0 T_api_Pair.rep x0]) :
 Calls prog 219 #[.slice A0 (x0).length c0,iv x1,iv x2,iv x3,.func (.func 149) #[] [].toArray] w λx w'=>x=.returned (.tuple #[])∧Hp Z0 (LS [ownR 116 A0 c0 T_api_Pair.rep x0]) w w' [ownR 116 A0 c0 T_api_Pair.rep r]∧(r).length=(x0).length:=by
 have D0:=hL.start;refine eg func219 8 ?_;refine bD Y 11 9 (λh2 Y=>?_) (λh2 Y=>?_)
 ·refine Rn.jF D0 [0] Y (G:=Int) (λg=>[(0,.slice A0 (x0).length c0),(1,iv x1),(10,iv g)]) (λg=>[_]) (λj g=>j g) ?_ ?_
  ·rintro y3 w4 D4 Y
   try dsimp only at Y
   refine gg 6 rfl ?_;obtain ⟨j2,hj2,Y⟩:=jnE Y;refine Rn.joinG (r:=r) (G:=(List T_api_Pair)) (λg=>[]) (λg w'=>Hp Z0 (LS [ownR 116 A0 c0 T_api_Pair.rep x0]) w w' [ownR 116 A0 c0 T_api_Pair.rep g]∧g.length=(x0).length) (λg=>j2 g) ?_ ?_
   ·subst hj2;clear Y;rintro y5 w6 ⟨D6,hl5⟩ Y;replace hl5:y5.length=(x0).length:=hl5
    try dsimp only at Y
    refine Rn.ret0 func219 rfl ?_;obtain rfl:=someE Y;exact ⟨rfl,D6.pk [0],hl5⟩
   intro K2;clear hj2;refine gg 1 rfl ?_;refine Rn.loopF (G:=(List T_api_Pair)×Int) (λg=>[(0,.slice A0 (x0).length c0),(10,iv y3),(13,iv (g.2))]) (λg w'=>Hp Z0 (LS [ownR 116 A0 c0 T_api_Pair.rep x0]) w w' [ownR 116 A0 c0 T_api_Pair.rep (g.1)]∧(g.1).length=(x0).length) (λn g=>m_slices_symMergeCmpFunc_api_Pair_s2_L1 y3 j2 n g.1 g.2) fuel (x0,x1) sA (⟨D4.pk [0],rfl⟩) Y (λ_=>rfl) ?_;clear Y;rintro m9 ⟨y7,y8⟩ w9 ⟨D9,hl7⟩ Y N9;replace hl7:y7.length=(x0).length:=hl7;replace Y:m_slices_symMergeCmpFunc_api_Pair_s2_L1 y3 j2 (m9+1) y7 y8=some r:=Y;rw [m_slices_symMergeCmpFunc_api_Pair_s2_L1] at Y;refine gg 8 rfl ?_;refine bD Y 3 1 (λh10 Y=>?_) (λh10 Y=>?_)
   ·refine Rn.drawX rfl D9 ?_;intro w11 D11;refine dq [0,1,2,3,4,5,6,7] ?_;obtain ⟨z12,e12,Y⟩:=bindE Y;obtain ⟨kk12,ke12,kz12,kl12⟩:=idxE e12;obtain ⟨g12,vs12,hA12,hR12,hrel12⟩:=D11.ownAt 0 rfl kz12;subst hA12;obtain rfl:=T_api_Pair.relE hrel12;refine RH.tk 8 rfl (λw' hDr=>V.ixE kk12 U30 O116 rfl rfl ke12 (Nat.lt_of_lt_of_eq kl12 hl7)) ?_;refine dq [10,11] ?_;obtain ⟨z13,e13,Y⟩:=bindE Y;obtain ⟨kk13,ke13,kz13,kl13⟩:=idxE e13;obtain ⟨vs13,hR13,hrel13⟩:=D11.ownAtL 0 rfl kz13;obtain rfl:=T_api_Pair.relE hrel13;refine RH.tk 12 rfl (λw' hDr=>V.ixE kk13 U30 O116 rfl rfl ke13 (Nat.lt_of_lt_of_eq kl13 hl7)) ?_;refine RH.two 9 13 (by kernel_rfl) rfl rfl rfl rfl (V.ldA (vs:=[_,_]) V116 O116 rfl (Rd.pre hR12 2) rfl) rfl rfl rfl rfl (V.ldA (vs:=[_,_]) V116 O116 rfl (Rd.pre hR13 2) rfl) ?_ ?_
    ·refine RH.ho 13 rfl (V.ldA (vs:=[_,_]) V116 O116 rfl (Rd.pre hR13 2) rfl) ?_;obtain ⟨z15,e15,Y⟩:=bindE Y;obtain ⟨kk15,ke15,kz15,kl15⟩:=idxE e15;obtain ⟨vs15,hR15,hrel15⟩:=D11.ownAtL 0 rfl kz15;obtain rfl:=T_api_Pair.relE hrel15;refine RH.ho 14 rfl (V.ixE kk15 U30 O116 rfl rfl ke15 (Nat.lt_of_lt_of_eq kl15 hl7)) ?_;refine RH.stI 15 (by kernel_rfl) D11 0 rfl ke15 kl15 rfl rfl O116 rfl rfl rfl (vs:=[Str (z12.Key),Str (z12.Val)]) rfl ((T_api_Pair.relI)) ?_;intro w16 D16;refine ⟨trivial,?_⟩;obtain ⟨z17,e17,Y⟩:=bindE Y;obtain ⟨kk17,ke17,kz17,kl17⟩:=idxE e17;obtain ⟨vs17,hR17,hrel17⟩:=D16.ownAtL 0 rfl kz17;obtain rfl:=T_api_Pair.relE hrel17;refine RH.ho 16 rfl (V.ixE kk17 U30 O116 rfl rfl ke17 (Nat.lt_of_lt_of_eq kl17 ((length_setI _ _ _).trans hl7))) ?_;refine RH.stI 17 (by kernel_rfl) D16 0 rfl ke17 kl17 rfl rfl O116 rfl rfl rfl (vs:=[Str (z13.Key),Str (z13.Val)]) rfl ((T_api_Pair.relI)) ?_;intro w18 D18;refine ⟨trivial,?_⟩;refine RH.dn ?_;refine gg 6 rfl ?_;exact N9 ((setI (setI y7 y8 z12) (W64 (y8+1)) z13),(W64 (y8+1))) _ _ sA (⟨D18.pk [0],((length_setI _ _ _).trans ((length_setI _ _ _).trans hl7))⟩) Y
    refine RH.ho 9 rfl (V.ldA (vs:=[_,_]) V116 O116 rfl (Rd.pre hR12 2) rfl) ?_;obtain ⟨z19,e19,Y⟩:=bindE Y;obtain ⟨kk19,ke19,kz19,kl19⟩:=idxE e19;obtain ⟨vs19,hR19,hrel19⟩:=D11.ownAtL 0 rfl kz19;obtain rfl:=T_api_Pair.relE hrel19;refine RH.ho 14 rfl (V.ixE kk19 U30 O116 rfl rfl ke19 (Nat.lt_of_lt_of_eq kl19 hl7)) ?_;refine RH.stI 15 (by kernel_rfl) D11 0 rfl ke19 kl19 rfl rfl O116 rfl rfl rfl (vs:=[Str (z12.Key),Str (z12.Val)]) rfl ((T_api_Pair.relI)) ?_;intro w20 D20;refine ⟨trivial,?_⟩;obtain ⟨z21,e21,Y⟩:=bindE Y;obtain ⟨kk21,ke21,kz21,kl21⟩:=idxE e21;obtain ⟨vs21,hR21,hrel21⟩:=D20.ownAtL 0 rfl kz21;obtain rfl:=T_api_Pair.relE hrel21;refine RH.ho 16 rfl (V.ixE kk21 U30 O116 rfl rfl ke21 (Nat.lt_of_lt_of_eq kl21 ((length_setI _ _ _).trans hl7))) ?_;refine RH.stI 17 (by kernel_rfl) D20 0 rfl ke21 kl21 rfl rfl O116 rfl rfl rfl (vs:=[Str (z13.Key),Str (z13.Val)]) rfl ((T_api_Pair.relI)) ?_;intro w22 D22;refine ⟨trivial,?_⟩;refine RH.dn ?_;refine gg 6 rfl ?_;exact N9 ((setI (setI y7 y8 z12) (W64 (y8+1)) z13),(W64 (y8+1))) _ _ sA (⟨D22.pk [0],((length_setI _ _ _).trans ((length_setI _ _ _).trans hl7))⟩) Y
   exact K2 y7 _ _ (sb trivial) (⟨D9.pk [0],hl7⟩) Y
  intro j1 Y K1;refine gg 1 rfl ?_;refine Rn.lF D0 [0] (G:=Int×Int) (λg=>[(0,.slice A0 (x0).length c0),(1,iv x1),(4,.func (.func 149) #[] [].toArray),(10,iv (g.1)),(11,iv (g.2))]) (λg=>[_]) (λn g=>m_slices_symMergeCmpFunc_api_Pair_s2_L2 x0 x1 j1 n g.1 g.2) fuel (x2,x3) sA (D0.pk [0]) Y ?_;clear Y;rintro m25 ⟨y23,y24⟩ w25 D25 Y N25;replace Y:m_slices_symMergeCmpFunc_api_Pair_s2_L2 x0 x1 j1 (m25+1) y23 y24=some r:=Y;rw [m_slices_symMergeCmpFunc_api_Pair_s2_L2] at Y;refine gg 7 rfl ?_;refine bD Y 7 1 (λh26 Y=>?_) (λh26 Y=>?_)
  ·refine Rn.q rfl (V.cv64 U3 U134 rfl) (Rn.q rfl (V.sh64 rfl rfl _ 1 rfl rfl (b64_shr _ _ _ 1 (by decide))) (Rn.q rfl (V.cvW U134 U3 rfl) (gg 3 rfl ?_)));refine Rn.drawH rfl D25 ?_;intro w27 D27;refine dq [0,1,2] ?_;obtain ⟨z28,e28,Y⟩:=bindE Y;obtain ⟨kk28,ke28,kz28,kl28⟩:=idxE e28;obtain ⟨g28,vs28,hA28,hR28,hrel28⟩:=D27.ownAt 0 rfl kz28;subst hA28;obtain rfl:=T_api_Pair.relE hrel28;refine RH.tk 3 rfl (λw' hDr=>V.ixE kk28 U30 O116 rfl rfl ke28 kl28) ?_;refine RH.tk 4 rfl (λw' hDr=>V.ldA (vs:=[_,_]) V116 O116 rfl (Rd.pre (hR28.ext hDr) 2) rfl) ?_;refine dq [5,6] ?_;obtain ⟨z29,e29,Y⟩:=bindE Y;obtain ⟨kk29,ke29,kz29,kl29⟩:=idxE e29;obtain ⟨vs29,hR29,hrel29⟩:=D27.ownAtL 0 rfl kz29;obtain rfl:=T_api_Pair.relE hrel29;refine RH.ho 7 rfl (V.ixE kk29 U30 O116 rfl rfl ke29 kl29) ?_;refine RH.ho 8 rfl (V.ldA (vs:=[_,_]) V116 O116 rfl (Rd.pre hR29 2) rfl) ?_;obtain ⟨p30,e30,Y⟩:=bindE Y;refine RH.clV (cK func149) 9 (by kernel_rfl) rfl rfl rfl rfl rfl (m_label_Sorted_1_sim (Z0:=All) e30  :) ?_;rintro _ w30 ⟨rfl,Q30⟩;refine ⟨_,rfl,((Ext.refl _).trans Q30.fr),?_⟩;have D31:=D27.call0 Q30;refine dq [10] ?_;refine RH.dn ?_;refine bD Y 6 5 (λh32 Y=>?_) (λh32 Y=>?_)
   ·exact N25 ((W64 ((W64 (((toU64 (W64 (y23+y24)))>>>UInt64.ofNat 1).toNat:Int))+1)),y24) _ _ sA (D31.pk [0]) Y
   exact N25 (y23,(W64 (((toU64 (W64 (y23+y24)))>>>UInt64.ofNat 1).toNat:Int))) _ _ sA (D31.pk [0]) Y
  exact K1 y23 _ _ sA (D25.pk [0]) Y
 refine bD Y 11 6 (λh33 Y=>?_) (λh33 Y=>?_)
 ·refine Rn.jF D0 [0] Y (G:=Int) (λg=>[(0,.slice A0 (x0).length c0),(2,iv x2),(14,iv g)]) (λg=>[_]) (λj g=>j g) ?_ ?_
  ·rintro y34 w35 D35 Y
   try dsimp only at Y
   refine gg 6 rfl ?_;obtain ⟨j4,hj4,Y⟩:=jnE Y;refine Rn.joinG (r:=r) (G:=(List T_api_Pair)) (λg=>[]) (λg w'=>Hp Z0 (LS [ownR 116 A0 c0 T_api_Pair.rep x0]) w w' [ownR 116 A0 c0 T_api_Pair.rep g]∧g.length=(x0).length) (λg=>j4 g) ?_ ?_
   ·subst hj4;clear Y;rintro y36 w37 ⟨D37,hl36⟩ Y;replace hl36:y36.length=(x0).length:=hl36
    try dsimp only at Y
    refine Rn.ret0 func219 rfl ?_;obtain rfl:=someE Y;exact ⟨rfl,D37.pk [0],hl36⟩
   intro K4;clear hj4;refine gg 1 rfl ?_;refine Rn.loopF (G:=(List T_api_Pair)×Int) (λg=>[(0,.slice A0 (x0).length c0),(14,iv y34),(17,iv (g.2))]) (λg w'=>Hp Z0 (LS [ownR 116 A0 c0 T_api_Pair.rep x0]) w w' [ownR 116 A0 c0 T_api_Pair.rep (g.1)]∧(g.1).length=(x0).length) (λn g=>m_slices_symMergeCmpFunc_api_Pair_s2_L3 y34 j4 n g.1 g.2) fuel (x0,x2) sA (⟨D35.pk [0],rfl⟩) Y (λ_=>rfl) ?_;clear Y;rintro m40 ⟨y38,y39⟩ w40 ⟨D40,hl38⟩ Y N40;replace hl38:y38.length=(x0).length:=hl38;replace Y:m_slices_symMergeCmpFunc_api_Pair_s2_L3 y34 j4 (m40+1) y38 y39=some r:=Y;rw [m_slices_symMergeCmpFunc_api_Pair_s2_L3] at Y;refine gg 7 rfl ?_;refine bD Y 3 1 (λh41 Y=>?_) (λh41 Y=>?_)
   ·refine Rn.drawX rfl D40 ?_;intro w42 D42;refine dq [0,1,2,3,4,5,6,7] ?_;obtain ⟨z43,e43,Y⟩:=bindE Y;obtain ⟨kk43,ke43,kz43,kl43⟩:=idxE e43;obtain ⟨g43,vs43,hA43,hR43,hrel43⟩:=D42.ownAt 0 rfl kz43;subst hA43;obtain rfl:=T_api_Pair.relE hrel43;refine RH.tk 8 rfl (λw' hDr=>V.ixE kk43 U30 O116 rfl rfl ke43 (Nat.lt_of_lt_of_eq kl43 hl38)) ?_;refine dq [10,11] ?_;obtain ⟨z44,e44,Y⟩:=bindE Y;obtain ⟨kk44,ke44,kz44,kl44⟩:=idxE e44;obtain ⟨vs44,hR44,hrel44⟩:=D42.ownAtL 0 rfl kz44;obtain rfl:=T_api_Pair.relE hrel44;refine RH.tk 12 rfl (λw' hDr=>V.ixE kk44 U30 O116 rfl rfl ke44 (Nat.lt_of_lt_of_eq kl44 hl38)) ?_;refine RH.two 9 13 (by kernel_rfl) rfl rfl rfl rfl (V.ldA (vs:=[_,_]) V116 O116 rfl (Rd.pre hR43 2) rfl) rfl rfl rfl rfl (V.ldA (vs:=[_,_]) V116 O116 rfl (Rd.pre hR44 2) rfl) ?_ ?_
    ·refine RH.ho 13 rfl (V.ldA (vs:=[_,_]) V116 O116 rfl (Rd.pre hR44 2) rfl) ?_;obtain ⟨z46,e46,Y⟩:=bindE Y;obtain ⟨kk46,ke46,kz46,kl46⟩:=idxE e46;obtain ⟨vs46,hR46,hrel46⟩:=D42.ownAtL 0 rfl kz46;obtain rfl:=T_api_Pair.relE hrel46;refine RH.ho 14 rfl (V.ixE kk46 U30 O116 rfl rfl ke46 (Nat.lt_of_lt_of_eq kl46 hl38)) ?_;refine RH.stI 15 (by kernel_rfl) D42 0 rfl ke46 kl46 rfl rfl O116 rfl rfl rfl (vs:=[Str (z43.Key),Str (z43.Val)]) rfl ((T_api_Pair.relI)) ?_;intro w47 D47;refine ⟨trivial,?_⟩;obtain ⟨z48,e48,Y⟩:=bindE Y;obtain ⟨kk48,ke48,kz48,kl48⟩:=idxE e48;obtain ⟨vs48,hR48,hrel48⟩:=D47.ownAtL 0 rfl kz48;obtain rfl:=T_api_Pair.relE hrel48;refine RH.ho 16 rfl (V.ixE kk48 U30 O116 rfl rfl ke48 (Nat.lt_of_lt_of_eq kl48 ((length_setI _ _ _).trans hl38))) ?_;refine RH.stI 17 (by kernel_rfl) D47 0 rfl ke48 kl48 rfl rfl O116 rfl rfl rfl (vs:=[Str (z44.Key),Str (z44.Val)]) rfl ((T_api_Pair.relI)) ?_;intro w49 D49;refine ⟨trivial,?_⟩;refine RH.dn ?_;refine gg 6 rfl ?_;exact N40 ((setI (setI y38 y39 z43) (W64 (y39-1)) z44),(W64 (y39-1))) _ _ sA (⟨D49.pk [0],((length_setI _ _ _).trans ((length_setI _ _ _).trans hl38))⟩) Y
    refine RH.ho 9 rfl (V.ldA (vs:=[_,_]) V116 O116 rfl (Rd.pre hR43 2) rfl) ?_;obtain ⟨z50,e50,Y⟩:=bindE Y;obtain ⟨kk50,ke50,kz50,kl50⟩:=idxE e50;obtain ⟨vs50,hR50,hrel50⟩:=D42.ownAtL 0 rfl kz50;obtain rfl:=T_api_Pair.relE hrel50;refine RH.ho 14 rfl (V.ixE kk50 U30 O116 rfl rfl ke50 (Nat.lt_of_lt_of_eq kl50 hl38)) ?_;refine RH.stI 15 (by kernel_rfl) D42 0 rfl ke50 kl50 rfl rfl O116 rfl rfl rfl (vs:=[Str (z43.Key),Str (z43.Val)]) rfl ((T_api_Pair.relI)) ?_;intro w51 D51;refine ⟨trivial,?_⟩;obtain ⟨z52,e52,Y⟩:=bindE Y;obtain ⟨kk52,ke52,kz52,kl52⟩:=idxE e52;obtain ⟨vs52,hR52,hrel52⟩:=D51.ownAtL 0 rfl kz52;obtain rfl:=T_api_Pair.relE hrel52;refine RH.ho 16 rfl (V.ixE kk52 U30 O116 rfl rfl ke52 (Nat.lt_of_lt_of_eq kl52 ((length_setI _ _ _).trans hl38))) ?_;refine RH.stI 17 (by kernel_rfl) D51 0 rfl ke52 kl52 rfl rfl O116 rfl rfl rfl (vs:=[Str (z44.Key),Str (z44.Val)]) rfl ((T_api_Pair.relI)) ?_;intro w53 D53;refine ⟨trivial,?_⟩;refine RH.dn ?_;refine gg 6 rfl ?_;exact N40 ((setI (setI y38 y39 z43) (W64 (y39-1)) z44),(W64 (y39-1))) _ _ sA (⟨D53.pk [0],((length_setI _ _ _).trans ((length_setI _ _ _).trans hl38))⟩) Y
   exact K4 y38 _ _ (sb trivial) (⟨D40.pk [0],hl38⟩) Y
  intro j3 Y K3;refine gg 1 rfl ?_;refine Rn.lF D0 [0] (G:=Int×Int) (λg=>[(0,.slice A0 (x0).length c0),(2,iv x2),(4,.func (.func 149) #[] [].toArray),(14,iv (g.1)),(15,iv (g.2))]) (λg=>[_]) (λn g=>m_slices_symMergeCmpFunc_api_Pair_s2_L4 x0 x2 j3 n g.1 g.2) fuel (x1,x2) sA (D0.pk [0]) Y ?_;clear Y;rintro m56 ⟨y54,y55⟩ w56 D56 Y N56;replace Y:m_slices_symMergeCmpFunc_api_Pair_s2_L4 x0 x2 j3 (m56+1) y54 y55=some r:=Y;rw [m_slices_symMergeCmpFunc_api_Pair_s2_L4] at Y;refine gg 7 rfl ?_;refine bD Y 7 1 (λh57 Y=>?_) (λh57 Y=>?_)
  ·refine Rn.q rfl (V.cv64 U3 U134 rfl) (Rn.q rfl (V.sh64 rfl rfl _ 1 rfl rfl (b64_shr _ _ _ 1 (by decide))) (Rn.q rfl (V.cvW U134 U3 rfl) (gg 3 rfl ?_)));refine Rn.drawH rfl D56 ?_;intro w58 D58;refine dq [0,1,2] ?_;obtain ⟨z59,e59,Y⟩:=bindE Y;obtain ⟨kk59,ke59,kz59,kl59⟩:=idxE e59;obtain ⟨g59,vs59,hA59,hR59,hrel59⟩:=D58.ownAt 0 rfl kz59;subst hA59;obtain rfl:=T_api_Pair.relE hrel59;refine RH.tk 3 rfl (λw' hDr=>V.ixE kk59 U30 O116 rfl rfl ke59 kl59) ?_;refine RH.tk 4 rfl (λw' hDr=>V.ldA (vs:=[_,_]) V116 O116 rfl (Rd.pre (hR59.ext hDr) 2) rfl) ?_;refine dq [5,6] ?_;obtain ⟨z60,e60,Y⟩:=bindE Y;obtain ⟨kk60,ke60,kz60,kl60⟩:=idxE e60;obtain ⟨vs60,hR60,hrel60⟩:=D58.ownAtL 0 rfl kz60;obtain rfl:=T_api_Pair.relE hrel60;refine RH.ho 7 rfl (V.ixE kk60 U30 O116 rfl rfl ke60 kl60) ?_;refine RH.ho 8 rfl (V.ldA (vs:=[_,_]) V116 O116 rfl (Rd.pre hR60 2) rfl) ?_;obtain ⟨p61,e61,Y⟩:=bindE Y;refine RH.clV (cK func149) 9 (by kernel_rfl) rfl rfl rfl rfl rfl (m_label_Sorted_1_sim (Z0:=All) e61  :) ?_;rintro _ w61 ⟨rfl,Q61⟩;refine ⟨_,rfl,((Ext.refl _).trans Q61.fr),?_⟩;have D62:=D58.call0 Q61;refine dq [10] ?_;refine RH.ho 11 rfl (V.notD rfl) ?_;refine RH.dn ?_;refine bD Y 6 5 (λh63 Y=>?_) (λh63 Y=>?_)
   ·exact N56 ((W64 ((W64 (((toU64 (W64 (y54+y55)))>>>UInt64.ofNat 1).toNat:Int))+1)),y55) _ _ sA (D62.pk [0]) Y
   exact N56 (y54,(W64 (((toU64 (W64 (y54+y55)))>>>UInt64.ofNat 1).toNat:Int))) _ _ sA (D62.pk [0]) Y
  exact K3 y54 _ _ sA (D56.pk [0]) Y
 refine Rn.q rfl (V.cv64 U3 U134 rfl) (Rn.q rfl (V.sh64 rfl rfl _ 1 rfl rfl (b64_shr _ _ _ 1 (by decide))) (Rn.q rfl (V.cvW U134 U3 rfl) (gg 21 rfl ?_)));refine Rn.jF D0 [0] Y (G:=Int×Int) (λg=>[(0,.slice A0 (x0).length c0),(1,iv x1),(2,iv x2),(3,iv x3),(4,.func (.func 149) #[] [].toArray),(18,iv (W64 (((toU64 (W64 (x1+x3)))>>>UInt64.ofNat 1).toNat:Int))),(19,iv (W64 ((W64 (((toU64 (W64 (x1+x3)))>>>UInt64.ofNat 1).toNat:Int))+x2))),(20,iv (g.1)),(21,iv (g.2))]) (λg=>[_]) (λj g=>j g.1 g.2) ?_ ?_
 ·rintro ⟨y64,y65⟩ w66 D66 Y
  try dsimp only at Y
  refine gg 7 rfl ?_;refine Rn.jF D66 [0] Y (G:=Int) (λg=>[(0,.slice A0 (x0).length c0),(1,iv x1),(2,iv x2),(3,iv x3),(4,.func (.func 149) #[] [].toArray),(18,iv (W64 (((toU64 (W64 (x1+x3)))>>>UInt64.ofNat 1).toNat:Int))),(19,iv (W64 ((W64 (((toU64 (W64 (x1+x3)))>>>UInt64.ofNat 1).toNat:Int))+x2))),(20,iv g)]) (λg=>[_]) (λj g=>j g) ?_ ?_
  ·rintro y67 w68 D68 Y
   try dsimp only at Y
   refine gg 14 rfl ?_;refine Rn.cutR [] [(0,.slice A0 (x0).length c0),(1,iv x1),(2,iv x2),(3,iv x3),(4,.func (.func 149) #[] [].toArray),(18,iv (W64 (((toU64 (W64 (x1+x3)))>>>UInt64.ofNat 1).toNat:Int))),(20,iv y67),(24,iv (W64 ((W64 ((W64 (((toU64 (W64 (x1+x3)))>>>UInt64.ofNat 1).toNat:Int))+x2))-y67))),(185,.bool (decide ((y67<x2)∧(x2<W64 ((W64 ((W64 (((toU64 (W64 (x1+x3)))>>>UInt64.ofNat 1).toNat:Int))+x2))-y67)))))] (λK69=>?_) ?_
   ·refine Rn.partD (t:=181) rfl (λh70=>?_) (λh70=>?_)
    ·refine gg 4 rfl ?_;exact K69 _ sA
    refine gg 4 rfl ?_;exact K69 _ sA
   refine gg 1 rfl ?_;obtain ⟨j7,hj7,Y⟩:=jnE Y;refine Rn.joinG (r:=r) (G:=(List T_api_Pair)) (λg=>[(0,.slice A0 (x0).length c0),(1,iv x1),(3,iv x3),(4,.func (.func 149) #[] [].toArray),(18,iv (W64 (((toU64 (W64 (x1+x3)))>>>UInt64.ofNat 1).toNat:Int))),(20,iv y67),(24,iv (W64 ((W64 ((W64 (((toU64 (W64 (x1+x3)))>>>UInt64.ofNat 1).toNat:Int))+x2))-y67)))]) (λg w'=>Hp Z0 (LS [ownR 116 A0 c0 T_api_Pair.rep x0]) w w' [ownR 116 A0 c0 T_api_Pair.rep g]∧g.length=(x0).length) (λg=>j7 g) ?_ ?_
   ·subst hj7;clear Y;rintro y71 w72 ⟨D72,hl71⟩ Y;replace hl71:y71.length=(x0).length:=hl71
    try dsimp only at Y
    refine gg 7 rfl ?_;refine Rn.cutR [] [(0,.slice A0 (x0).length c0),(1,iv x1),(3,iv x3),(4,.func (.func 149) #[] [].toArray),(18,iv (W64 (((toU64 (W64 (x1+x3)))>>>UInt64.ofNat 1).toNat:Int))),(20,iv y67),(24,iv (W64 ((W64 ((W64 (((toU64 (W64 (x1+x3)))>>>UInt64.ofNat 1).toNat:Int))+x2))-y67))),(199,.bool (decide ((x1<y67)∧(y67<W64 (((toU64 (W64 (x1+x3)))>>>UInt64.ofNat 1).toNat:Int)))))] (λK73=>?_) ?_
    ·refine Rn.partD (t:=195) rfl (λh74=>?_) (λh74=>?_)
     ·refine gg 4 rfl ?_;exact K73 _ sA
     refine gg 4 rfl ?_;exact K73 _ sA
    refine gg 1 rfl ?_;refine Rn.jF D72 [0] Y (G:=Unit) (λg=>[(0,.slice A0 (x0).length c0),(3,iv x3),(4,.func (.func 149) #[] [].toArray),(18,iv (W64 (((toU64 (W64 (x1+x3)))>>>UInt64.ofNat 1).toNat:Int))),(24,iv (W64 ((W64 ((W64 (((toU64 (W64 (x1+x3)))>>>UInt64.ofNat 1).toNat:Int))+x2))-y67)))]) (λg=>[_]) (λj g=>j ()) ?_ ?_
    ·rintro _ w75 D75 Y
     try dsimp only at Y
     refine gg 6 rfl ?_;refine Rn.cutR [] [(0,.slice A0 (x0).length c0),(3,iv x3),(4,.func (.func 149) #[] [].toArray),(18,iv (W64 (((toU64 (W64 (x1+x3)))>>>UInt64.ofNat 1).toNat:Int))),(24,iv (W64 ((W64 ((W64 (((toU64 (W64 (x1+x3)))>>>UInt64.ofNat 1).toNat:Int))+x2))-y67))),(213,.bool (decide ((W64 (((toU64 (W64 (x1+x3)))>>>UInt64.ofNat 1).toNat:Int)<W64 ((W64 ((W64 (((toU64 (W64 (x1+x3)))>>>UInt64.ofNat 1).toNat:Int))+x2))-y67))∧(W64 ((W64 ((W64 (((toU64 (W64 (x1+x3)))>>>UInt64.ofNat 1).toNat:Int))+x2))-y67)<x3))))] (λK76=>?_) ?_
     ·refine Rn.partD (t:=209) rfl (λh77=>?_) (λh77=>?_)
      ·refine gg 4 rfl ?_;exact K76 _ sA
      refine gg 4 rfl ?_;exact K76 _ sA
     refine gg 1 rfl ?_;refine aD Y (λh78 Y=>?_) (λh78 Y=>?_)
     ·cases Y
     refine gg 1 rfl ?_;refine Rn.end0 func219 rfl ?_;obtain rfl:=someE Y;exact ⟨rfl,D75.pk [0],hl71⟩
    intro j8 Y K8;refine aD Y (λh80 Y=>?_) (λh80 Y=>?_)
    ·cases Y
    refine gg 1 rfl ?_;exact K8 () _ _ sA (D72.pk [0]) Y
   intro K7;clear hj7;refine bD Y 6 1 (λh82 Y=>?_) (λh82 Y=>?_)
   ·obtain ⟨p83,e83,Y⟩:=bindE Y;have D84:=D68.cu [] [0];refine Rn.cq (cK func239) (m_slices_rotateCmpFunc_api_Pair_s2_sim e83 D84.lend :) ?_;rintro _ w83 ⟨rfl,Q83,hl83_0⟩;refine ⟨_,rfl,?_⟩;have D86:=D84.callAZ Q83;refine gg 1 rfl ?_;exact K7 p83 _ _ sA (⟨D86.pk [0],hl83_0⟩) Y
   exact K7 x0 _ _ sA (⟨D68.pk [0],rfl⟩) Y
  intro j6 Y K6;refine gg 1 rfl ?_;refine Rn.lF D66 [0] (G:=Int×Int) (λg=>[(0,.slice A0 (x0).length c0),(1,iv x1),(2,iv x2),(3,iv x3),(4,.func (.func 149) #[] [].toArray),(18,iv (W64 (((toU64 (W64 (x1+x3)))>>>UInt64.ofNat 1).toNat:Int))),(19,iv (W64 ((W64 (((toU64 (W64 (x1+x3)))>>>UInt64.ofNat 1).toNat:Int))+x2))),(20,iv (g.1)),(21,iv (g.2)),(22,iv (W64 ((W64 ((W64 (((toU64 (W64 (x1+x3)))>>>UInt64.ofNat 1).toNat:Int))+x2))-1)))]) (λg=>[_]) (λn g=>m_slices_symMergeCmpFunc_api_Pair_s2_L5 x0 x1 x2 x3 j6 n g.1 g.2) fuel (y64,y65) sA (D66.pk [0]) Y ?_;clear Y;rintro m89 ⟨y87,y88⟩ w89 D89 Y N89;replace Y:m_slices_symMergeCmpFunc_api_Pair_s2_L5 x0 x1 x2 x3 j6 (m89+1) y87 y88=some r:=Y;rw [m_slices_symMergeCmpFunc_api_Pair_s2_L5] at Y;refine gg 7 rfl ?_;refine bD Y 7 1 (λh90 Y=>?_) (λh90 Y=>?_)
  ·refine Rn.q rfl (V.cv64 U3 U134 rfl) (Rn.q rfl (V.sh64 rfl rfl _ 1 rfl rfl (b64_shr _ _ _ 1 (by decide))) (Rn.q rfl (V.cvW U134 U3 rfl) (gg 3 rfl ?_)));refine Rn.drawH rfl D89 ?_;intro w91 D91;refine dq [0,1,2,3,4] ?_;obtain ⟨z92,e92,Y⟩:=bindE Y;obtain ⟨kk92,ke92,kz92,kl92⟩:=idxE e92;obtain ⟨g92,vs92,hA92,hR92,hrel92⟩:=D91.ownAt 0 rfl kz92;subst hA92;obtain rfl:=T_api_Pair.relE hrel92;refine RH.tk 5 rfl (λw' hDr=>V.ixE kk92 U30 O116 rfl rfl ke92 kl92) ?_;refine RH.tk 6 rfl (λw' hDr=>V.ldA (vs:=[_,_]) V116 O116 rfl (Rd.pre (hR92.ext hDr) 2) rfl) ?_;refine dq [7,8] ?_;obtain ⟨z93,e93,Y⟩:=bindE Y;obtain ⟨kk93,ke93,kz93,kl93⟩:=idxE e93;obtain ⟨vs93,hR93,hrel93⟩:=D91.ownAtL 0 rfl kz93;obtain rfl:=T_api_Pair.relE hrel93;refine RH.ho 9 rfl (V.ixE kk93 U30 O116 rfl rfl ke93 kl93) ?_;refine RH.ho 10 rfl (V.ldA (vs:=[_,_]) V116 O116 rfl (Rd.pre hR93 2) rfl) ?_;obtain ⟨p94,e94,Y⟩:=bindE Y;refine RH.clV (cK func149) 11 (by kernel_rfl) rfl rfl rfl rfl rfl (m_label_Sorted_1_sim (Z0:=All) e94  :) ?_;rintro _ w94 ⟨rfl,Q94⟩;refine ⟨_,rfl,((Ext.refl _).trans Q94.fr),?_⟩;have D95:=D91.call0 Q94;refine dq [12] ?_;refine RH.ho 13 rfl (V.notD rfl) ?_;refine RH.dn ?_;refine bD Y 6 5 (λh96 Y=>?_) (λh96 Y=>?_)
   ·exact N89 ((W64 ((W64 (((toU64 (W64 (y87+y88)))>>>UInt64.ofNat 1).toNat:Int))+1)),y88) _ _ sA (D95.pk [0]) Y
   exact N89 (y87,(W64 (((toU64 (W64 (y87+y88)))>>>UInt64.ofNat 1).toNat:Int))) _ _ sA (D95.pk [0]) Y
  exact K6 y87 _ _ sA (D89.pk [0]) Y
 intro j5 Y K5;refine bD Y 11 9 (λh97 Y=>?_) (λh97 Y=>?_)
 ·exact K5 ((W64 ((W64 ((W64 (((toU64 (W64 (x1+x3)))>>>UInt64.ofNat 1).toNat:Int))+x2))-x3)),(W64 (((toU64 (W64 (x1+x3)))>>>UInt64.ofNat 1).toNat:Int))) _ _ sA (D0.pk [0]) Y
 exact K5 (x1,x2) _ _ sA (D0.pk [0]) Y
theorem m_slices_stableCmpFunc_api_Pair_s1_sim {x0:(List T_api_Pair)} {x1:Int} {r:(List T_api_Pair)} (Y:m_slices_stableCmpFunc_api_Pair_s1 x0 x1=some r) (hL:Lent Z0 w [ownR 116 A0 c0 T_api_Pair.rep x0]) :
 Calls prog 194 #[.slice A0 (x0).length c0,iv x1,.func (.func 149) #[] [].toArray] w λx w'=>x=.returned (.tuple #[])∧Hp Z0 (LS [ownR 116 A0 c0 T_api_Pair.rep x0]) w w' [ownR 116 A0 c0 T_api_Pair.rep r]∧(r).length=(x0).length:=by
 have D0:=hL.start;refine eg func194 11 ?_;obtain ⟨j1,hj1,Y⟩:=jnE Y;refine Rn.joinG (r:=r) (G:=(List T_api_Pair)×Int) (λg=>[(0,.slice A0 (x0).length c0),(1,iv x1),(2,.func (.func 149) #[] [].toArray),(6,iv 20),(7,iv (g.2))]) (λg w'=>Hp Z0 (LS [ownR 116 A0 c0 T_api_Pair.rep x0]) w w' [ownR 116 A0 c0 T_api_Pair.rep (g.1)]∧(g.1).length=(x0).length) (λg=>j1 g.1 g.2) ?_ ?_
 ·subst hj1;clear Y;rintro ⟨y2,y3⟩ w4 ⟨D4,hl2⟩ Y;replace hl2:y2.length=(x0).length:=hl2
  try dsimp only at Y
  refine gg 6 rfl ?_;refine Rn.say (t:=0) (.slice A0 (y2).length c0) rfl (congrArg (λ(n0:Nat)=>Value.slice A0 n0 c0) (show (x0).length=(y2).length from (hl2).symm.trans (rfl))) ?_;refine Rn.say (t:=23) (.slice A0 (y2).length c0) rfl (congrArg (λ(n0:Nat)=>Value.slice A0 n0 c0) (show (x0).length=(y2).length from (hl2).symm.trans (rfl))) ?_;obtain ⟨p5,e5,Y⟩:=bindE Y;have D6:=D4.cu [] [0];refine Rn.cq (cK func218) (m_slices_insertionSortCmpFunc_api_Pair_s2_sim e5 D6.lend :) ?_;rintro _ w5 ⟨rfl,Q5,hl5_0⟩;refine ⟨_,rfl,?_⟩;have D8:=D6.callAZ Q5;refine gg 1 rfl ?_;obtain ⟨j2,hj2,Y⟩:=jnE Y;refine Rn.joinG (r:=r) (G:=(List T_api_Pair)) (λg=>[]) (λg w'=>Hp Z0 (LS [ownR 116 A0 c0 T_api_Pair.rep x0]) w w' [ownR 116 A0 c0 T_api_Pair.rep g]∧g.length=(y2).length) (λg=>j2 g) ?_ ?_
  ·subst hj2;clear Y;rintro y9 w10 ⟨D10,hl9⟩ Y;replace hl9:y9.length=(y2).length:=hl9
   try dsimp only at Y
   refine Rn.end0 func194 rfl ?_;obtain rfl:=someE Y;exact ⟨rfl,D10.pk [0],(hl9.trans ((hl5_0).symm.trans ((hl5_0.trans hl2))))⟩
  intro K2;clear hj2;refine gg 1 rfl ?_;refine Rn.loopF (G:=(List T_api_Pair)×Int) (λg=>[(0,.slice A0 (y2).length c0),(1,iv x1),(2,.func (.func 149) #[] [].toArray),(6,iv (g.2))]) (λg w'=>Hp Z0 (LS [ownR 116 A0 c0 T_api_Pair.rep x0]) w w' [ownR 116 A0 c0 T_api_Pair.rep (g.1)]∧(g.1).length=(y2).length) (λn g=>m_slices_stableCmpFunc_api_Pair_s1_L1 x1 j2 n g.1 g.2) fuel (p5,20) sA (⟨D8.pk [0],hl5_0⟩) Y (λ_=>rfl) ?_;clear Y;rintro m13 ⟨y11,y12⟩ w13 ⟨D13,hl11⟩ Y N13;replace hl11:y11.length=(y2).length:=hl11;replace Y:m_slices_stableCmpFunc_api_Pair_s1_L1 x1 j2 (m13+1) y11 y12=some r:=Y;rw [m_slices_stableCmpFunc_api_Pair_s1_L1] at Y;refine gg 7 rfl ?_;refine bD Y 10 1 (λh14 Y=>?_) (λh14 Y=>?_)
  ·obtain ⟨j3,hj3,Y⟩:=jnE Y;refine Rn.joinG (r:=r) (G:=(List T_api_Pair)×Int) (λg=>[(0,.slice A0 (y2).length c0),(1,iv x1),(2,.func (.func 149) #[] [].toArray),(6,iv y12),(7,iv (g.2))]) (λg w'=>Hp Z0 (LS [ownR 116 A0 c0 T_api_Pair.rep x0]) w w' [ownR 116 A0 c0 T_api_Pair.rep (g.1)]∧(g.1).length=(y2).length) (λg=>j3 g.1 g.2) ?_ ?_
   ·subst hj3;clear Y;rintro ⟨y15,y16⟩ w17 ⟨D17,hl15⟩ Y;replace hl15:y15.length=(y2).length:=hl15
    try dsimp only at Y
    refine gg 14 rfl ?_;obtain ⟨j4,hj4,Y⟩:=jnE Y;refine Rn.joinG (r:=r) (G:=(List T_api_Pair)) (λg=>[(0,.slice A0 (y2).length c0),(1,iv x1),(2,.func (.func 149) #[] [].toArray),(6,iv y12)]) (λg w'=>Hp Z0 (LS [ownR 116 A0 c0 T_api_Pair.rep x0]) w w' [ownR 116 A0 c0 T_api_Pair.rep g]∧g.length=(y2).length) (λg=>j4 g) ?_ ?_
    ·subst hj4;clear Y;rintro y18 w19 ⟨D19,hl18⟩ Y;replace hl18:y18.length=(y2).length:=hl18
     try dsimp only at Y
     refine gg 6 rfl ?_;exact N13 (y18,(W64 (y12*2))) _ _ sA (⟨D19.pk [0],hl18⟩) Y
    intro K4;clear hj4;refine bD Y 6 1 (λh20 Y=>?_) (λh20 Y=>?_)
    ·refine Rn.say (t:=0) (.slice A0 (y15).length c0) rfl (congrArg (λ(n0:Nat)=>Value.slice A0 n0 c0) (show (y2).length=(y15).length from (hl15).symm.trans (rfl))) ?_;refine Rn.say (t:=55) (.slice A0 (y15).length c0) rfl (congrArg (λ(n0:Nat)=>Value.slice A0 n0 c0) (show (y2).length=(y15).length from (hl15).symm.trans (rfl))) ?_;obtain ⟨p21,e21,Y⟩:=bindE Y;have D22:=D17.cu [] [0];refine Rn.cq (cK func219) (m_slices_symMergeCmpFunc_api_Pair_s2_sim e21 D22.lend :) ?_;rintro _ w21 ⟨rfl,Q21,hl21_0⟩;refine ⟨_,rfl,?_⟩;have D24:=D22.callAZ Q21;refine gg 1 rfl ?_;refine Rn.say (t:=0) (.slice A0 (y2).length c0) rfl (congrArg (λ(n0:Nat)=>Value.slice A0 n0 c0) (show (y15).length=(y2).length from (hl21_0).symm.trans ((hl21_0.trans hl15)))) ?_;exact K4 p21 _ _ sA (⟨D24.pk [0],(hl21_0.trans hl15)⟩) Y
    exact K4 y15 _ _ sA (⟨D17.pk [0],hl15⟩) Y
   intro K3;clear hj3;refine gg 1 rfl ?_;refine Rn.loopF (G:=(List T_api_Pair)×Int×Int) (λg=>[(0,.slice A0 (y2).length c0),(1,iv x1),(2,.func (.func 149) #[] [].toArray),(6,iv y12),(7,iv (g.2.1)),(8,iv (g.2.2))]) (λg w'=>Hp Z0 (LS [ownR 116 A0 c0 T_api_Pair.rep x0]) w w' [ownR 116 A0 c0 T_api_Pair.rep (g.1)]∧(g.1).length=(y2).length) (λn g=>m_slices_stableCmpFunc_api_Pair_s1_L2 x1 y12 j3 n g.1 g.2.1 g.2.2) fuel (y11,0,(W64 (2*y12))) sA (⟨D13.pk [0],hl11⟩) Y (λ_=>rfl) ?_;clear Y;rintro m28 ⟨y25,y26,y27⟩ w28 ⟨D28,hl25⟩ Y N28;replace hl25:y25.length=(y2).length:=hl25;replace Y:m_slices_stableCmpFunc_api_Pair_s1_L2 x1 y12 j3 (m28+1) y25 y26 y27=some r:=Y;rw [m_slices_stableCmpFunc_api_Pair_s1_L2] at Y;refine gg 7 rfl ?_;refine bD Y 11 1 (λh29 Y=>?_) (λh29 Y=>?_)
   ·refine Rn.say (t:=0) (.slice A0 (y25).length c0) rfl (congrArg (λ(n0:Nat)=>Value.slice A0 n0 c0) (show (y2).length=(y25).length from (hl25).symm.trans (rfl))) ?_;refine Rn.say (t:=36) (.slice A0 (y25).length c0) rfl (congrArg (λ(n0:Nat)=>Value.slice A0 n0 c0) (show (y2).length=(y25).length from (hl25).symm.trans (rfl))) ?_;obtain ⟨p30,e30,Y⟩:=bindE Y;have D31:=D28.cu [] [0];refine Rn.cq (cK func219) (m_slices_symMergeCmpFunc_api_Pair_s2_sim e30 D31.lend :) ?_;rintro _ w30 ⟨rfl,Q30,hl30_0⟩;refine ⟨_,rfl,?_⟩;have D33:=D31.callAZ Q30;refine gg 14 rfl ?_;refine Rn.say (t:=0) (.slice A0 (y2).length c0) rfl (congrArg (λ(n0:Nat)=>Value.slice A0 n0 c0) (show (y25).length=(y2).length from (hl30_0).symm.trans ((hl30_0.trans hl25)))) ?_;exact N28 (p30,y27,(W64 (y27+(W64 (2*y12))))) _ _ sA (⟨D33.pk [0],(hl30_0.trans hl25)⟩) Y
   exact K3 (y25,y26) _ _ sA (⟨D28.pk [0],hl25⟩) Y
  exact K2 y11 _ _ (sb trivial) (⟨D13.pk [0],hl11⟩) Y
 intro K1;clear hj1;refine gg 1 rfl ?_;refine Rn.loopF (G:=(List T_api_Pair)×Int×Int) (λg=>[(0,.slice A0 (x0).length c0),(1,iv x1),(2,.func (.func 149) #[] [].toArray),(6,iv 20),(7,iv (g.2.1)),(8,iv (g.2.2))]) (λg w'=>Hp Z0 (LS [ownR 116 A0 c0 T_api_Pair.rep x0]) w w' [ownR 116 A0 c0 T_api_Pair.rep (g.1)]∧(g.1).length=(x0).length) (λn g=>m_slices_stableCmpFunc_api_Pair_s1_L3 x1 j1 n g.1 g.2.1 g.2.2) fuel (x0,0,20) sA (⟨D0.pk [0],rfl⟩) Y (λ_=>rfl) ?_;clear Y;rintro m37 ⟨y34,y35,y36⟩ w37 ⟨D37,hl34⟩ Y N37;replace hl34:y34.length=(x0).length:=hl34;replace Y:m_slices_stableCmpFunc_api_Pair_s1_L3 x1 j1 (m37+1) y34 y35 y36=some r:=Y;rw [m_slices_stableCmpFunc_api_Pair_s1_L3] at Y;refine gg 7 rfl ?_;refine bD Y 8 1 (λh38 Y=>?_) (λh38 Y=>?_)
 ·refine Rn.say (t:=0) (.slice A0 (y34).length c0) rfl (congrArg (λ(n0:Nat)=>Value.slice A0 n0 c0) (show (x0).length=(y34).length from (hl34).symm.trans (rfl))) ?_;refine Rn.say (t:=14) (.slice A0 (y34).length c0) rfl (congrArg (λ(n0:Nat)=>Value.slice A0 n0 c0) (show (x0).length=(y34).length from (hl34).symm.trans (rfl))) ?_;obtain ⟨p39,e39,Y⟩:=bindE Y;have D40:=D37.cu [] [0];refine Rn.cq (cK func218) (m_slices_insertionSortCmpFunc_api_Pair_s2_sim e39 D40.lend :) ?_;rintro _ w39 ⟨rfl,Q39,hl39_0⟩;refine ⟨_,rfl,?_⟩;have D42:=D40.callAZ Q39;refine gg 13 rfl ?_;refine Rn.say (t:=0) (.slice A0 (x0).length c0) rfl (congrArg (λ(n0:Nat)=>Value.slice A0 n0 c0) (show (y34).length=(x0).length from (hl39_0).symm.trans ((hl39_0.trans hl34)))) ?_;exact N37 (p39,y36,(W64 (y36+20))) _ _ sA (⟨D42.pk [0],(hl39_0.trans hl34)⟩) Y
 exact K1 (y34,y35) _ _ sA (⟨D37.pk [0],hl34⟩) Y
theorem m_slices_SortStableFunc_api_Pair_api_Pair_s1_sim {x0:(List T_api_Pair)} {r:(List T_api_Pair)} (Y:m_slices_SortStableFunc_api_Pair_api_Pair_s1 x0=some r) (hL:Lent Z0 w [ownR 116 A0 c0 T_api_Pair.rep x0]) :
 Calls prog 148 #[.slice A0 (x0).length c0,.func (.func 149) #[] [].toArray] w λx w'=>x=.returned (.tuple #[])∧Hp Z0 (LS [ownR 116 A0 c0 T_api_Pair.rep x0]) w w' [ownR 116 A0 c0 T_api_Pair.rep r]∧(r).length=(x0).length:=by
 have D0:=hL.start;refine eg func148 3 ?_;refine Rn.q rfl (V.lenV U30 rfl) (gg 1 rfl ?_);obtain ⟨p2,e2,Y⟩:=bindE Y;have D3:=D0.cu [] [0];refine Rn.cq (cK func194) (m_slices_stableCmpFunc_api_Pair_s1_sim e2 D3.lend :) ?_;rintro _ w2 ⟨rfl,Q2,hl2_0⟩;refine ⟨_,rfl,?_⟩;have D5:=D3.callAZ Q2;refine gg 1 rfl ?_;refine Rn.end0 func148 rfl ?_;obtain rfl:=someE Y;exact ⟨rfl,D5.pk [0],hl2_0⟩
theorem m_label_Sorted_sim {x0:(List T_api_Pair)} {r:(List T_api_Pair)} (Y:m_label_Sorted x0=some r) (f0:(slR A0 c0 T_api_Pair.rep x0).H Z0 w) :
 Calls prog 84 #[.slice A0 (x0).length c0] w λx w'=>∃ A_0_0 c_0_0,x=.returned (.slice A_0_0 (r).length c_0_0)∧Hp Z0 No w w' [ownR 116 A_0_0 c_0_0 T_api_Pair.rep r]:=by
 obtain ⟨D0,D2,hc0⟩:=knA f0;refine eg func84 7 ?_;obtain ⟨p3,e3,Y⟩:=bindE Y
 refine Rn.c2 (cK func146) (m_slices_Clone_api_Pair_api_Pair_sim (Z0:=All) e3 (slR_all (D2.get 0 rfl)) :) λA3_0_0 c3_0_0 w3 Q3=>?_
 have D5:=D2.callF (flC (ownR_flat T_api_Pair.flat _ _ _ _) fl0) Q3;refine gg 5 rfl ?_;obtain ⟨p6,e6,Y⟩:=bindE Y;have D7:=D5.cu [0] [1];refine Rn.cq (cK func148) (m_slices_SortStableFunc_api_Pair_api_Pair_s1_sim e6 D7.lend :) ?_;rintro _ w6 ⟨rfl,Q6,hl6_0⟩;refine ⟨_,rfl,?_⟩;have D9:=D7.callAZ Q6;refine gg 6 rfl ?_;refine Rn.say (t:=2) (.slice A3_0_0 (p6).length c3_0_0) rfl (congrArg (λ(n0:Nat)=>Value.slice A3_0_0 n0 c3_0_0) (show (p3).length=(p6).length from (hl6_0).symm.trans (rfl))) ?_
 cases Y
 exact Rn.R1 func84 ⟨A3_0_0,c3_0_0,rfl,D9.pk [1]⟩
theorem m_label_Text_sim {x0:(List UInt8)} {x1:(List T_api_Pair)} {r:((List UInt8)×Int)} (Y:m_label_Text x0 x1=some r) (f0:(slR A1 c1 T_api_Pair.rep x1).H Z0 w) :
 Calls prog 34 #[Str (x0),.slice A1 (x1).length c1] w λx w'=>x=.returned (.tuple #[Str (r.1),iv r.2])∧Hp Z0 No w w' []:=by
 obtain ⟨D0,D2,hc0⟩:=knA f0;refine eg func34 10 ?_;obtain ⟨p3,e3,Y⟩:=bindE Y
 refine Rn.c0 (cK func57) (m_label_Check_sim (Z0:=All) e3 (slR_all (D2.get 0 rfl)) :) D2 λw3 _ D4=>?_
 refine gg 7 rfl ?_;refine bD Y 6 3 (λh5 Y=>?_) (λh5 Y=>?_)
 ·cases Y
  exact Rn.R2 func34 ⟨rfl,D4.pk []⟩
 refine Rn.al D4 Tryz.zeroValue140 λb6 w6 D8=>?_
 replace D8:=D8.nb;have D9:Hp Z0 No w w6 [slR A1 c1 T_api_Pair.rep x1,bldR 140 5 b6 none 0 ([]:List UInt8)]:=D8.toBld 1 rfl;refine gg 4 rfl ?_;obtain ⟨z10,e10,Y⟩:=bindE Y;have D11:=D9.cu [0] [1]
 refine Rn.c2 (cK func83) (bld_ws _ _ _ _ _ x0 D11.lend e10) λA10 c10 w10 Q10=>?_
 have D12:=D11.callAZ Q10;refine gg 5 rfl ?_;obtain ⟨p13,e13,Y⟩:=bindE Y
 refine Rn.c2 (cK func84) (m_label_Sorted_sim (Z0:=All) e13 (slR_all (D12.get 0 rfl)) :) λA13_0_0 c13_0_0 w13 Q13=>?_
 have D15:=D12.callF (flC (ownR_flat T_api_Pair.flat _ _ _ _) fl0) Q13;refine Rn.q rfl (V.lenV U30 rfl) (gg 2 rfl ?_);refine Rn.jF D15 [2,99] Y (G:=(List UInt8)×Option Addr×Nat) (λg=>[(7,pt b6 0)]) (λg=>[_,bldR 140 5 b6 (g.2.1) (g.2.2) (g.1)]) (λj g=>j g.1) ?_ ?_
 ·rintro ⟨y16,A17,c17⟩ w18 D18 Y
  try dsimp only at Y
  refine gg 2 rfl ?_;have D20:=D18.cu [0] [1];refine Rn.cq (cK func85) (bld_str _ _ _ _ _ D20.lend) ?_;rintro _ w19 ⟨rfl,Q19⟩;refine ⟨_,rfl,?_⟩;have D21:=D20.callAZ Q19;refine gg 3 rfl ?_
  cases Y
  exact Rn.R2 func34 ⟨rfl,D21.pk []⟩
 intro j1 Y K1;refine gg 1 rfl ?_;refine Rn.lF D15 [2,99] (G:=Int×(List UInt8)×Option Addr×Nat) (λg=>[(7,pt b6 0),(19,.slice A13_0_0 (p13).length c13_0_0),(20,iv (p13.length:Int)),(21,iv (g.1))]) (λg=>[_,bldR 140 5 b6 (g.2.2.1) (g.2.2.2) (g.2.1)]) (λn g=>m_label_Text_L1 p13 j1 n g.1 g.2.1) fuel (0,z10,A10,c10) sA (D15.pk [2,1]) Y ?_;clear Y;rintro m25 ⟨y22,y23,A24,c24⟩ w25 D25 Y N25;replace Y:m_label_Text_L1 p13 j1 (m25+1) y22 y23=some r:=Y;rw [m_label_Text_L1] at Y;refine gg 5 rfl ?_;refine bD Y 5 1 (λh26 Y=>?_) (λh26 Y=>?_)
 ·obtain ⟨z27,e27,Y⟩:=bindE Y;obtain ⟨kk27,ke27,kz27,kl27⟩:=idxE e27;obtain ⟨g27,vs27,hA27,hR27,hrel27⟩:=D25.ownAt 0 rfl kz27;subst hA27;obtain rfl:=T_api_Pair.relE hrel27;refine Rn.q rfl (V.ixE kk27 U30 O116 rfl rfl ke27 kl27) (Rn.q rfl (V.ldA (vs:=[_,_]) V116 O116 rfl (Rd.pre hR27 2) rfl) (Rn.als rfl rfl rfl Tryz.zeroValue116 rfl O116 rfl rfl rfl rfl (by first|exact ones rfl|(simp [Value.oneCell'];done)) ?_));intro b28 w28 hb28 m28 e28;have D30:=(D25.addBox hb28 e28 m28).nb;refine gg 3 rfl (Rn.q rfl (V.ldB V9 rfl (D30.get 2 rfl) rfl) ?_);obtain ⟨z31,e31,Y⟩:=bindE Y;refine Rn.q rfl (V.catZ rfl rfl e31) ?_;obtain ⟨z32,e32,Y⟩:=bindE Y;refine Rn.q rfl (V.catZ rfl rfl e32) (gg 1 rfl (Rn.q rfl (V.ldB V9 rfl (D30.get 2 rfl) rfl) ?_));obtain ⟨z33,e33,Y⟩:=bindE Y;refine Rn.q rfl (V.catZ rfl rfl e33) ?_;obtain ⟨z34,e34,Y⟩:=bindE Y;have D35:=D30.cu [0,2] [1]
  refine Rn.c2 (cK func83) (bld_ws _ _ _ _ _ z33 D35.lend e34) λA34 c34 w34 Q34=>?_
  have D36:=D35.callAZ Q34;refine gg 6 rfl ?_;exact N25 ((W64 (y22+1)),z34,A34,c34) _ _ sA (D36.pk [0,2]) Y
 exact K1 (y23,A24,c24) _ _ sA (D25.pk [0,1]) Y
theorem m_point_bit_sim {x0:Bool} {r:Int} (Y:m_point_bit x0=some r)  :
 Calls prog 35 #[.bool (x0)] w λx w'=>x=.returned (iv r)∧Hp Z0 No w w' []:=by
 have D0:=Hp.nil Z0 No w;have hc0:=Calm.nil;refine eg func35 9 ?_;refine bS Y 4 5 (λh1 Y=>?_) (λh1 Y=>?_)
 ·cases Y
  exact Rn.R1 func35 ⟨rfl,D0.pk []⟩
 cases Y
 exact Rn.R1 func35 ⟨rfl,D0.pk []⟩
theorem m_point_Key_sim {x0:T_api_Point} {r:((List UInt8)×Int)} (Y:m_point_Key x0=some r) (h0:T_api_Point.rep.rel Z0 w cs0 x0) :
 Calls prog 13 #[.agg cs0.toArray] w λx w'=>x=.returned (.tuple #[Str (r.1),iv r.2])∧Hp Z0 No w w' []:=by
 have D0:=Hp.nil Z0 No w;have hc0:=Calm.nil;obtain ⟨Ar1,cr1,Ar3,cr3,Ar5,cr5,rfl,fs1,fs3,fs5⟩:=T_api_Point.relE h0;obtain ⟨D7,hc0⟩:=D0.kn hc0 fs1;obtain ⟨D8,hc0⟩:=D7.kn hc0 fs3;obtain ⟨D9,hc0⟩:=D8.kn hc0 fs5;refine eg func13 2 ?_
 refine Rn.bx D9 λb10 w10 D12=>?_
 replace D12:=D12.nb;refine gg 6 rfl (Rn.q rfl (V.ldBA [_,_,_,_,_,_,_,_,_,_,_,_,_,_,_,_,_] V38 O38 rfl (D12.get 3 rfl) rfl rfl) ?_);obtain ⟨p13,e13,Y⟩:=bindE Y
 refine Rn.c0 (cK func20) (m_point_Check_sim (Z0:=All) e13 (T_api_Point.relA (D12.get 0 rfl) (D12.get 1 rfl) (D12.get 2 rfl)) :) D12 λw13 _ D14=>?_
 refine gg 7 rfl ?_;refine bD Y 6 4 (λh15 Y=>?_) (λh15 Y=>?_)
 ·cases Y
  exact Rn.R2 func13 ⟨rfl,D14.pk []⟩
 refine Rn.q rfl (V.ldB V9 rfl (D14.get 3 rfl) rfl) (gg 1 rfl (Rn.q rfl (V.ldB V30 rfl (D14.get 3 rfl) rfl) ?_));obtain ⟨p16,e16,Y⟩:=bindE Y
 refine Rn.c0 (cK func34) (m_label_Text_sim (Z0:=All) e16 (slR_all (D14.get 0 rfl)) :) D14 λw16 _ D17=>?_
 refine gg 7 rfl ?_;refine Rn.drawH rfl D17 ?_;intro w18 D18;refine dq [0] ?_;obtain ⟨z19,e19,Y⟩:=bindE Y;refine RH.tk 1 rfl (λw' hDr=>V.catZ rfl rfl e19) ?_;refine dq [2] ?_;refine RH.tk 3 rfl (λw' hDr=>V.ldB V3 rfl ((D18.ext hDr).get 3 rfl) rfl) ?_;refine dq [4] ?_;refine RH.tk 5 rfl (λw' hDr=>V.cv8 U3 U5 rfl) ?_;refine dq [6] ?_;refine RH.tk 7 rfl (λw' hDr=>V.ldB V3 rfl ((D18.ext hDr).get 3 rfl) rfl) ?_;refine dq [8] ?_;refine RH.tk 9 rfl (λw' hDr=>V.cv8 U3 U5 rfl) ?_;refine dq [10] ?_;refine RH.ho 11 rfl (V.ldB V4 rfl (D18.get 3 rfl) rfl) ?_;obtain ⟨p20,e20,Y⟩:=bindE Y;refine RH.cq (cK func35) 12 (m_point_bit_sim (Z0:=All) e20  :) ?_;rintro _ w20 ⟨rfl,Q20⟩;refine ⟨_,rfl,((Ext.refl _).trans Q20.fr),?_⟩;have D21:=D18.call0 Q20;refine dq [13] ?_;refine RH.ho 14 rfl (V.cv8 U3 U5 rfl) ?_;refine RH.bslS 15 (by kernel_rfl) rfl rfl rfl U51 el5 rfl rfl rfl rfl (by first|exact szs rfl|(simp [Value.cells];done)) (by decide) ?_;intro b22 w22 hb22 m22 e22;have D23:=D21.addLit (rep:=byteR) (xs:=([toU8 (W64 (48+x0.Kind)),toU8 (W64 (48+x0.Temp)),toU8 (W64 (48+p20))]:List UInt8)) (vss:=[[u8v (toU8 (W64 (48+x0.Kind)))],[u8v (toU8 (W64 (48+x0.Temp)))],[u8v (toU8 (W64 (48+p20)))]]) hb22 e22 m22 rfl rfl rfl ((rels_cons (λ_ _=>⟨rfl,trivial⟩) (rels_cons (λ_ _=>⟨rfl,trivial⟩) (rels_cons (λ_ _=>⟨rfl,trivial⟩) rels0))));refine ⟨(((Ext.refl _).trans Q20.fr).trans e22),?_⟩;refine RH.ho 16 rfl (V.b2s U51 U9 U5 rfl rfl (Own.sl (D23.get 4 rfl))) ?_;obtain ⟨z25,e25,Y⟩:=bindE Y;refine RH.ho 17 rfl (V.catZ rfl rfl e25) ?_;refine dq [18,19] ?_;refine RH.dn ?_
 cases Y
 exact Rn.R2 func13 ⟨rfl,D23.pk []⟩
theorem m_hist_span_sim {x0:T_api_Side} {x1:UInt64} {r:Int} (Y:m_hist_span x0 x1=some r) (h0:T_api_Side.rep.rel Z0 w cs0 x0) :
 Calls prog 77 #[.agg cs0.toArray,u64v x1] w λx w'=>x=.returned (iv r)∧Hp Z0 No w w' []:=by
 have D0:=Hp.nil Z0 No w;have hc0:=Calm.nil;obtain ⟨Ar1,cr1,rfl,fs1⟩:=T_api_Side.relE h0;obtain ⟨D3,hc0⟩:=D0.kn hc0 fs1;refine eg func77 2 ?_
 refine Rn.bx D3 λb4 w4 D6=>?_
 replace D6:=D6.nb;refine gg 5 rfl (Rn.q rfl (V.ldB V32 rfl (D6.get 1 rfl) rfl) (Rn.q rfl (V.lenV U32 rfl) (gg 8 rfl ?_)));refine bD Y 4 4 (λh7 Y=>?_) (λh7 Y=>?_)
 ·cases Y
  exact Rn.R1 func77 ⟨rfl,D6.pk []⟩
 refine Rn.q rfl (V.ldB V3 rfl (D6.get 1 rfl) rfl) (gg 4 rfl (Rn.q rfl (V.shrZ (m:=(x1).toNat) rfl rfl) (gg 1 rfl (Rn.q rfl (V.ldB V3 rfl (D6.get 1 rfl) rfl) (gg 1 rfl (Rn.q rfl (V.shrZ (m:=(x1).toNat) rfl rfl) (gg 4 rfl ?_)))))))
 cases Y
 exact Rn.R1 func77 ⟨rfl,D6.pk []⟩
theorem m_hist_down_sim {x0:T_api_Side} {x1:UInt64} {r:T_api_Side} (Y:m_hist_down x0 x1=some r) (h0:T_api_Side.rep.rel Z0 w cs0 x0) :
 Calls prog 138 #[.agg cs0.toArray,u64v x1] w λx w'=>∃ A_0_0 c_0_0,x=.returned (.agg [iv r.Offset,.slice A_0_0 (r.Counts).length c_0_0].toArray)∧Hp Z0 No w w' [ownR 31 A_0_0 c_0_0 w64R r.Counts]:=by
 have D0:=Hp.nil Z0 No w;have hc0:=Calm.nil;obtain ⟨Ar1,cr1,rfl,fs1⟩:=T_api_Side.relE h0;obtain ⟨D3,hc0⟩:=D0.kn hc0 fs1;refine eg func138 2 ?_
 refine Rn.bx D3 λb4 w4 D6=>?_
 replace D6:=D6.nb
 refine Rn.al D6 Tryz.zeroValue34 λb7 w7 D9=>?_
 replace D9:=D9.nb;refine gg 5 rfl (Rn.q rfl (V.ldB V32 rfl (D9.get 1 rfl) rfl) (Rn.q rfl (V.lenV U32 rfl) (gg 2 rfl ?_)));refine bD Y 2 2 (λh10 Y=>?_) (λh10 Y=>?_)
 ·refine Rn.q rfl (V.bldS (cs:=[_,_]) st34 rfl rfl) (Rn.sn D9 2 O34 λw11 D12=>?_);refine gg 1 rfl ?_;have D13:=D12.addNil 31 w64R;refine Rn.retG1 func138 rfl (rvC rfl V34 O34 (D12.get 2 rfl) rfl) ?_;obtain rfl:=someE Y;exact ⟨none,0,rfl,D13.pk [3]⟩
 refine Rn.jF D9 [0,1,2,99] Y (G:=T_api_Side×(Nat→Prop)×Nat) (λg=>[(1,u64v x1),(2,pt b4 0),(4,pt b7 0),(5,pt (g.2.2) 0)]) (λg=>[_,_,_,T_api_Side.obj (g.2.1) (g.2.2) (g.1)]) (λj g=>j g.1) ?_ ?_
 ·rintro ⟨y15,F15,b15⟩ w17 D17 Y
  try dsimp only at Y
  refine gg 4 rfl (Rn.q rfl (V.ldB V32 rfl (D17.get 1 rfl) rfl) (Rn.q rfl (V.lenV U32 rfl) (gg 2 rfl ?_)));refine Rn.jF D17 [0,1,2,99] Y (G:=T_api_Side×(Nat→Prop)) (λg=>[(4,pt b7 0),(5,pt b15 0)]) (λg=>[_,_,_,T_api_Side.obj (g.2) b15 (g.1)]) (λj g=>j g.1) ?_ ?_
  ·rintro ⟨y18,F18⟩ w19 D19 Y
   try dsimp only at Y
   refine gg 2 rfl ?_;obtain ⟨_,⟨A20_0,c20_0,rfl⟩,D20⟩:=D19.unf 3 rfl;replace D20:=D20.nq;refine Rn.q rfl (V.ldBA [_,_] V34 O34 rfl (D20.get 3 rfl) rfl rfl) (Rn.sn D20 2 O34 λw22 D23=>?_);refine gg 1 rfl ?_;refine Rn.retG1 func138 rfl (rvC rfl V34 O34 (D23.get 2 rfl) rfl) ?_;obtain rfl:=someE Y;exact ⟨A20_0,c20_0,rfl,D23.pk [4]⟩
  intro j2 Y K2;refine gg 1 rfl ?_;refine Rn.lF D17 [0,1,2,99] (G:=Int×T_api_Side×(Nat→Prop)) (λg=>[(1,u64v x1),(2,pt b4 0),(4,pt b7 0),(5,pt b15 0),(23,.slice Ar1 (x0.Counts).length cr1),(24,iv (x0.Counts.length:Int)),(25,iv (g.1))]) (λg=>[_,_,_,T_api_Side.obj (g.2.2) b15 (g.2.1)]) (λn g=>m_hist_down_L1 x0 x1 j2 n g.1 g.2.1) fuel (0,y15,F15) sA (D17.pk [0,1,2,3]) Y ?_;clear Y;rintro m26 ⟨y24,y25,F25⟩ w26 D26 Y N26;replace Y:m_hist_down_L1 x0 x1 j2 (m26+1) y24 y25=some r:=Y;rw [m_hist_down_L1] at Y;refine gg 5 rfl ?_;refine bD Y 6 1 (λh27 Y=>?_) (λh27 Y=>?_)
  ·obtain ⟨z28,e28,Y⟩:=bindE Y;refine Rn.ixH D26 0 rfl e28 rfl rfl rfl U32 O31 rfl rfl rfl rfl ?_;rintro b28 o28 vs28 ⟨rfl,_⟩ D28;refine Rn.q rfl (V.ldR0 V31 rfl (D28.get 4 rfl).2 rfl) (gg 5 rfl ?_);obtain ⟨_,⟨A30_0,c30_0,rfl⟩,D30⟩:=D28.unf 3 rfl;replace D30:=D30.nq;refine Rn.q rfl (V.ldB V32 rfl (D30.get 4 rfl) rfl) (gg 1 rfl (Rn.q rfl (V.ldB V3 rfl (D30.get 1 rfl) rfl) (gg 3 rfl (Rn.q rfl (V.shrZ (m:=(x1).toNat) rfl rfl) (gg 1 rfl (Rn.q rfl (V.ldB V3 rfl (D30.get 4 rfl) rfl) (gg 1 rfl ?_)))))));obtain ⟨z32,e32,Y⟩:=bindE Y;obtain ⟨kk32,ke32,kz32,kl32⟩:=idxE e32;obtain ⟨g32,vs32,hA32,hR32,hrel32⟩:=D30.ownAt 5 rfl kz32;subst hA32;obtain ⟨rfl,_⟩:=hrel32;refine Rn.q rfl (V.ixE kk32 U32 O31 rfl rfl ke32 kl32) (Rn.q rfl (V.ldR0 V31 rfl hR32 rfl) (gg 1 rfl (Rn.q rfl (V.ari64 (a:=z32) (b:=z28) rfl rfl _ rfl (toU64_add _ _)) ?_)));obtain ⟨z33,e33,Y⟩:=bindE Y;obtain ⟨kk33,ke33,kz33,kl33⟩:=idxE e33;obtain ⟨vs33,hR33,hrel33⟩:=D30.ownAtL 5 rfl kz33;obtain ⟨rfl,_⟩:=hrel33;refine Rn.q rfl (V.ixE kk33 U32 O31 rfl rfl ke33 kl33) (Rn.stI D30 5 rfl ke33 kl33 rfl rfl O31 rfl rfl rfl (vs:=[u64v (z32+z28)]) rfl (⟨rfl,trivial⟩) ?_);intro w34 D34;refine gg 6 rfl ?_;have D35:=(D34.reBox 4 rfl (congrArg (λ(n0:Nat)=>([iv y25.Offset,.slice (some ⟨g32,0,none⟩) n0 c30_0]:List Value)) (show (y25.Counts).length=((setI y25.Counts (W64 ((shrZ (W64 (x0.Offset+y24)) ((x1).toNat))-y25.Offset)) (z32+z28))).length from ((length_setI _ _ _)).symm.trans (rfl)))).nf [_,_,_,_,boxR _ _ [_,_],_] rfl;have D37:=D35.cu [0,1,2,3] [4,5];obtain ⟨F36,D36⟩:=D37.fold (T_api_Side.sh b15 (⟨y25.Offset,(setI y25.Counts (W64 ((shrZ (W64 (x0.Offset+y24)) ((x1).toNat))-y25.Offset)) (z32+z28))⟩:T_api_Side)) ⟨(some ⟨g32,0,none⟩),c30_0,rfl⟩;exact N26 ((W64 (y24+1)),(⟨y25.Offset,(setI y25.Counts (W64 ((shrZ (W64 (x0.Offset+y24)) ((x1).toNat))-y25.Offset)) (z32+z28))⟩:T_api_Side),F36) _ _ sA (D36.pk [0,1,2,4]) Y
  exact K2 (y25,F25) _ _ sA (D26.pk [0,1,2,3]) Y
 intro j1 Y K1;have D40:=(D9.cutF [1,2] [] [0] rfl (by decide) ⟨λ_ h=>h,trivial⟩).nf ([_,_,_]++[_]) rfl;refine Rn.drawF rfl D40 ?_;intro w41 hmo41 D41;refine dq [0] ?_;refine RH.tk 1 rfl (λw' hDr=>V.ldB V3 rfl ((hmo41.awayK hDr).get 0 rfl) rfl) ?_;refine dq [2] ?_;refine RH.tk 3 rfl (λw' hDr=>V.shrZ (m:=(x1).toNat) rfl rfl) ?_;refine RH.tk 4 rfl (λw' hDr=>V.ldBA [_,_] V34 O34 rfl ((hmo41.awayK hDr).get 0 rfl) rfl rfl) ?_;refine dq [5] ?_;obtain ⟨p42,e42,Y⟩:=bindE Y;obtain ⟨z44,e44,Y⟩:=bindE Y;refine RH.both 6 9 (by kernel_rfl) ?_ ?_
 ·have e53:=e42;refine RB.cl (cK func77) 6 rfl rfl rfl rfl (m_hist_span_sim (Z0:=All) e53 (T_api_Side.relA (D41.get 0 rfl)) :) ?_;rintro _ w53 ⟨rfl,Q53⟩;have D54:=D41.call0 Q53;refine ⟨_,rfl,D54.fr,?_⟩;refine RH.both 7 9 (by kernel_rfl) ?_ ?_
  ·have e55:=e44;refine RB.mkSlH (rep:=w64R) 7 D54 e55 rfl rfl rfl U32 el31 rfl (zs:=[u64v (0:UInt64)]) (by kernel_rfl) rfl rfl (λ_ _=>⟨rfl,trivial⟩) ?_;intro b55 w55 D55 x55;refine ⟨D55.fr,?_⟩;refine RH.tk 8 rfl (λw' hDr=>V.bldS (cs:=[_,_]) st34 rfl rfl) ?_;refine RH.alloc 9 (by kernel_rfl) rfl rfl rfl Tryz.zeroValue34 rfl ?_;intro b57 w57 hb57 m57 e57;have D59:=(D55.addBox hb57 e57 m57).nb;refine ⟨D59.fr,?_⟩
   refine RH.sn 10 D59 2 O34 λw60 D61=>?_
   refine ⟨D61.fr,?_⟩;refine RH.dn ?_;have D62:=hmo41.callAZ D61;have D63:=(D62.pk [0,1,3,4,5]).nq;have D65:=D63.cu [0,1,2] [4,3];obtain ⟨F64,D64⟩:=D65.fold (T_api_Side.sh b57 (⟨shrZ x0.Offset ((x1).toNat),z44⟩:T_api_Side)) ⟨(some ⟨b55,0,none⟩),((z44).length),rfl⟩;exact K1 ((⟨shrZ x0.Offset ((x1).toNat),z44⟩:T_api_Side),F64,b57) _ _ sA (D64.pk [2,0,1,3]) Y
  refine RB.alloc 9 rfl rfl rfl Tryz.zeroValue34 rfl ?_;intro b66 w66 hb66 m66 e66;have D68:=(D54.addBox hb66 e66 m66).nb;refine ⟨D68.fr,?_⟩;have e69:=e44;refine RH.mkSlH (rep:=w64R) 7 (by kernel_rfl) D68 e69 rfl rfl rfl U32 el31 rfl (zs:=[u64v (0:UInt64)]) (by kernel_rfl) rfl rfl (λ_ _=>⟨rfl,trivial⟩) ?_;intro b69 w69 D69 x69;refine ⟨D69.fr,?_⟩;refine RH.ho 8 rfl (V.bldS (cs:=[_,_]) st34 rfl rfl) ?_
  refine RH.sn 10 D69 1 O34 λw71 D72=>?_
  refine ⟨D72.fr,?_⟩;refine RH.dn ?_;have D73:=hmo41.callAZ D72;have D74:=(D73.pk [0,1,3,4,5]).nq;have D76:=D74.cu [0,1,2] [3,4];obtain ⟨F75,D75⟩:=D76.fold (T_api_Side.sh b66 (⟨shrZ x0.Offset ((x1).toNat),z44⟩:T_api_Side)) ⟨(some ⟨b69,0,none⟩),((z44).length),rfl⟩;exact K1 ((⟨shrZ x0.Offset ((x1).toNat),z44⟩:T_api_Side),F75,b66) _ _ sA (D75.pk [2,0,1,3]) Y
 refine RB.alloc 9 rfl rfl rfl Tryz.zeroValue34 rfl ?_;intro b77 w77 hb77 m77 e77;have D79:=(D41.addBox hb77 e77 m77).nb;refine ⟨D79.fr,?_⟩;have e80:=e42;refine RH.cq (cK func77) 6 (m_hist_span_sim (Z0:=All) e80 (T_api_Side.relA (D79.get 0 rfl)) :) ?_;rintro _ w80 ⟨rfl,Q80⟩;have D81:=D79.call0 Q80;refine ⟨_,rfl,D81.fr,?_⟩;have e82:=e44;refine RH.mkSlH (rep:=w64R) 7 (by kernel_rfl) D81 e82 rfl rfl rfl U32 el31 rfl (zs:=[u64v (0:UInt64)]) (by kernel_rfl) rfl rfl (λ_ _=>⟨rfl,trivial⟩) ?_;intro b82 w82 D82 x82;refine ⟨D82.fr,?_⟩;refine RH.ho 8 rfl (V.bldS (cs:=[_,_]) st34 rfl rfl) ?_
 refine RH.sn 10 D82 1 O34 λw84 D85=>?_
 refine ⟨D85.fr,?_⟩;refine RH.dn ?_;have D86:=hmo41.callAZ D85;have D87:=(D86.pk [0,1,3,4,5]).nq;have D89:=D87.cu [0,1,2] [3,4];obtain ⟨F88,D88⟩:=D89.fold (T_api_Side.sh b77 (⟨shrZ x0.Offset ((x1).toNat),z44⟩:T_api_Side)) ⟨(some ⟨b82,0,none⟩),((z44).length),rfl⟩;exact K1 ((⟨shrZ x0.Offset ((x1).toNat),z44⟩:T_api_Side),F88,b77) _ _ sA (D88.pk [2,0,1,3]) Y
theorem m_hist_Down_sim {x0:T_api_Hist} {x1:Int} {r:(T_api_Hist×Int)} (Y:m_hist_Down x0 x1=some r) (h0:T_api_Hist.rep.rel Z0 w cs0 x0) :
 Calls prog 78 #[.agg cs0.toArray,iv x1] w λx w'=>∃ A_0_0 c_0_0 A_0_1 c_0_1,x=.returned (.tuple #[.agg [iv r.1.Scale,u64v r.1.Zero,iv r.1.Pos.Offset,.slice A_0_0 (r.1.Pos.Counts).length c_0_0,iv r.1.Neg.Offset,.slice A_0_1 (r.1.Neg.Counts).length c_0_1].toArray,iv r.2])∧Hp Z0 No w w' [ownR 31 A_0_0 c_0_0 w64R r.1.Pos.Counts,ownR 31 A_0_1 c_0_1 w64R r.1.Neg.Counts]:=by
 have D0:=Hp.nil Z0 No w;have hc0:=Calm.nil;obtain ⟨Ar1,cr1,Ar3,cr3,rfl,fs1,fs3⟩:=T_api_Hist.relE h0;obtain ⟨D5,hc0⟩:=D0.kn hc0 fs1;obtain ⟨D6,hc0⟩:=D5.kn hc0 fs3;refine eg func78 2 ?_
 refine Rn.bx D6 λb7 w7 D9=>?_
 replace D9:=D9.nb
 refine Rn.al D9 Tryz.zeroValue36 λb10 w10 D12=>?_
 replace D12:=D12.nb;refine gg 5 rfl (Rn.q rfl (V.ldBA [_,_,_,_,_,_] V36 O36 rfl (D12.get 2 rfl) rfl rfl) ?_);obtain ⟨p13,e13,Y⟩:=bindE Y
 refine Rn.c0 (cK func64) (m_hist_Check_sim (Z0:=All) e13 (T_api_Hist.relA (D12.get 0 rfl) (D12.get 1 rfl)) :) D12 λw13 _ D14=>?_
 refine gg 7 rfl ?_;refine bD Y 2 7 (λh15 Y=>?_) (λh15 Y=>?_)
 ·refine Rn.q rfl (V.bldS (cs:=[_,_,_,_,_,_]) st36 rfl rfl) (gg 1 rfl (Rn.sn D14 3 O36 λw16 D17=>?_));refine gg 2 rfl ?_;have D18:=D17.addNil 31 w64R;have D20:=D18.addNil 31 w64R;refine Rn.retG2 func78 rfl (rvC rfl V36 O36 (D17.get 3 rfl) rfl) (rvT rfl) ?_;obtain rfl:=someE Y;exact ⟨none,0,none,0,rfl,D20.pk [4,5]⟩
 refine Rn.jQ D14 [0,1,2,3] Y (G:=Bool) [] (λg=>[(1,iv x1),(2,pt b7 0),(4,pt b10 0),(21,.bool (g))]) (λg=>[_,_,_,_]) (λj g=>j g) ?_ ?_
 ·rintro y22 w23 D23 Y
  try dsimp only at Y
  refine gg 1 rfl ?_;refine bS Y 2 2 (λh24 Y=>?_) (λh24 Y=>?_)
  ·refine Rn.q rfl (V.bldS (cs:=[_,_,_,_,_,_]) st36 rfl rfl) (Rn.sn D23 3 O36 λw25 D26=>?_);refine gg 2 rfl ?_;have D27:=D26.addNil 31 w64R;have D29:=D27.addNil 31 w64R;refine Rn.retG2 func78 rfl (rvC rfl V36 O36 (D26.get 3 rfl) rfl) (rvT rfl) ?_;obtain rfl:=someE Y;exact ⟨none,0,none,0,rfl,D29.pk [4,5]⟩
  refine Rn.drawK 17 rfl D23 (by kernel_rfl) ?_;intro w31 D31;refine dq [0] ?_;refine RH.tk 1 rfl (λw' hDr=>V.ldB V3 rfl ((D31.ext hDr).get 2 rfl) rfl) ?_;refine dq [2,3,4] ?_;refine RH.tk 5 rfl (λw' hDr=>V.ldB V31 rfl ((D31.ext hDr).get 2 rfl) rfl) ?_;refine dq [6] ?_;refine RH.tk 7 rfl (λw' hDr=>V.ldBA [_,_] V34 O34 rfl ((D31.ext hDr).get 2 rfl) rfl rfl) ?_;refine dq [8] ?_;refine RH.tk 9 rfl (λw' hDr=>V.cv64 U3 U134 rfl) ?_;refine dq [11] ?_;refine RH.tk 12 rfl (λw' hDr=>V.ldBA [_,_] V34 O34 rfl ((D31.ext hDr).get 2 rfl) rfl rfl) ?_;refine dq [13] ?_;refine RH.tk 14 rfl (λw' hDr=>V.cv64 U3 U134 rfl) ?_;obtain ⟨p32,e32,Y⟩:=bindE Y;refine RH.cq (cK func138) 10 (m_hist_down_sim (Z0:=All) e32 (T_api_Side.relA (D31.get 0 rfl)) :) ?_;rintro _ w32 ⟨A32_0_0,c32_0_0,rfl,Q32⟩;refine ⟨_,rfl,((Ext.refl _).trans Q32.fr),?_⟩;have D34:=D31.callF (flC (ownR_flat w64_flat _ _ _ _) fl0) Q32;obtain ⟨p35,e35,Y⟩:=bindE Y;refine RH.cq (cK func138) 15 (m_hist_down_sim (Z0:=All) e35 (T_api_Side.relA (D34.get 1 rfl)) :) ?_;rintro _ w35 ⟨A35_0_0,c35_0_0,rfl,Q35⟩;refine ⟨_,rfl,(((Ext.refl _).trans Q32.fr).trans Q35.fr),?_⟩;have D37:=D34.callF (flC (ownR_flat w64_flat _ _ _ _) fl0) Q35;refine RH.ho 16 rfl (V.bldS (cs:=[_,_,_,_,_,_]) st36 rfl rfl) ?_;refine RG.tailK (by kernel_rfl) ?_
  refine RH.sn 17 D37 3 O36 λw38 D39=>?_
  refine ⟨trivial,?_⟩;refine dq [18] ?_;refine RH.dn ?_;refine Rn.retG2 func78 rfl (rvC rfl V36 O36 (D39.get 3 rfl) rfl) (rvT rfl) ?_;obtain rfl:=someE Y;exact ⟨A32_0_0,c32_0_0,A35_0_0,c35_0_0,rfl,D39.pk [4,5]⟩
 intro j1 Y K1;refine askD Y (Rn.partD (t:=15) rfl) (λh40 Y=>?_) (λh40 Y=>?_)
 ·refine gg 6 rfl ?_;exact K1 true _ _ sA (D14.pk [0,1,2,3]) Y
 refine gg 2 rfl (Rn.q rfl (V.ldB V3 rfl (D14.get 2 rfl) rfl) (gg 3 rfl ?_));exact K1 (decide (x1>W64 (x0.Scale-(-10)))) _ _ sA (D14.pk [0,1,2,3]) Y
theorem m_hist_Fit_sim {x0:T_api_Hist} {x1:Int} {r:(T_api_Hist×Int)} (Y:m_hist_Fit x0 x1=some r) (h0:T_api_Hist.rep.rel Z0 w cs0 x0) :
 Calls prog 28 #[.agg cs0.toArray,iv x1] w λx w'=>∃ A_0_0 c_0_0 A_0_1 c_0_1,x=.returned (.tuple #[.agg [iv r.1.Scale,u64v r.1.Zero,iv r.1.Pos.Offset,.slice A_0_0 (r.1.Pos.Counts).length c_0_0,iv r.1.Neg.Offset,.slice A_0_1 (r.1.Neg.Counts).length c_0_1].toArray,iv r.2])∧Hp Z0 No w w' [ownR 31 A_0_0 c_0_0 w64R r.1.Pos.Counts,ownR 31 A_0_1 c_0_1 w64R r.1.Neg.Counts]:=by
 have D0:=Hp.nil Z0 No w;have hc0:=Calm.nil;obtain ⟨Ar1,cr1,Ar3,cr3,rfl,fs1,fs3⟩:=T_api_Hist.relE h0;obtain ⟨D5,hc0⟩:=D0.kn hc0 fs1;obtain ⟨D6,hc0⟩:=D5.kn hc0 fs3;refine eg func28 2 ?_
 refine Rn.bx D6 λb7 w7 D9=>?_
 replace D9:=D9.nb
 refine Rn.al D9 Tryz.zeroValue36 λb10 w10 D12=>?_
 replace D12:=D12.nb;refine gg 5 rfl (Rn.q rfl (V.ldBA [_,_,_,_,_,_] V36 O36 rfl (D12.get 2 rfl) rfl rfl) ?_);obtain ⟨p13,e13,Y⟩:=bindE Y
 refine Rn.c0 (cK func64) (m_hist_Check_sim (Z0:=All) e13 (T_api_Hist.relA (D12.get 0 rfl) (D12.get 1 rfl)) :) D12 λw13 _ D14=>?_
 refine gg 7 rfl ?_;refine bD Y 2 6 (λh15 Y=>?_) (λh15 Y=>?_)
 ·refine Rn.q rfl (V.bldS (cs:=[_,_,_,_,_,_]) st36 rfl rfl) (gg 1 rfl (Rn.sn D14 3 O36 λw16 D17=>?_));refine gg 2 rfl ?_;have D18:=D17.addNil 31 w64R;have D20:=D18.addNil 31 w64R;refine Rn.retG2 func28 rfl (rvC rfl V36 O36 (D17.get 3 rfl) rfl) (rvT rfl) ?_;obtain rfl:=someE Y;exact ⟨none,0,none,0,rfl,D20.pk [4,5]⟩
 refine Rn.jF D14 [0,1,2,3] Y (G:=Unit) (λg=>[(4,pt b10 0)]) (λg=>[_,_,_,_]) (λj g=>j ()) ?_ ?_
 ·rintro _ w22 D22 Y
  try dsimp only at Y
  refine gg 2 rfl (Rn.q rfl (V.bldS (cs:=[_,_,_,_,_,_]) st36 rfl rfl) (Rn.sn D22 3 O36 λw23 D24=>?_));refine gg 2 rfl ?_;have D25:=D24.addNil 31 w64R;have D27:=D25.addNil 31 w64R;refine Rn.retG2 func28 rfl (rvC rfl V36 O36 (D24.get 3 rfl) rfl) (rvT rfl) ?_;obtain rfl:=someE Y;exact ⟨none,0,none,0,rfl,D27.pk [4,5]⟩
 intro j1 Y K1;refine gg 1 rfl ?_;refine Rn.lF D14 [0,1,2,3] (G:=Int) (λg=>[(1,iv x1),(2,pt b7 0),(4,pt b10 0),(7,iv g)]) (λg=>[_,_,_,_]) (λn g=>m_hist_Fit_L1 x0 x1 j1 n g) fuel 0 sA (D14.pk [0,1,2,3]) Y ?_;clear Y;rintro m30 y29 w30 D30 Y N30;replace Y:m_hist_Fit_L1 x0 x1 j1 (m30+1) y29=some r:=Y;rw [m_hist_Fit_L1] at Y;refine gg 5 rfl (Rn.q rfl (V.ldB V3 rfl (D30.get 2 rfl) rfl) (gg 3 rfl ?_));refine bD Y 4 1 (λh31 Y=>?_) (λh31 Y=>?_)
 ·refine Rn.drawH rfl D30 ?_;intro w32 D32;refine dq [0] ?_;refine RH.tk 1 rfl (λw' hDr=>V.ldBA [_,_] V34 O34 rfl ((D32.ext hDr).get 2 rfl) rfl rfl) ?_;refine dq [2] ?_;refine RH.tk 3 rfl (λw' hDr=>V.cv64 U3 U134 rfl) ?_;refine dq [5] ?_;refine RH.tk 6 rfl (λw' hDr=>V.ldBA [_,_] V34 O34 rfl ((D32.ext hDr).get 2 rfl) rfl rfl) ?_;refine dq [7] ?_;refine RH.tk 8 rfl (λw' hDr=>V.cv64 U3 U134 rfl) ?_;refine dq [11] ?_;obtain ⟨p33,e33,Y⟩:=bindE Y;refine RH.cq (cK func77) 4 (m_hist_span_sim (Z0:=All) e33 (T_api_Side.relA (D32.get 0 rfl)) :) ?_;rintro _ w33 ⟨rfl,Q33⟩;refine ⟨_,rfl,((Ext.refl _).trans Q33.fr),?_⟩;have D34:=D32.call0 Q33;obtain ⟨p35,e35,Y⟩:=bindE Y;refine RH.cq (cK func77) 9 (m_hist_span_sim (Z0:=All) e35 (T_api_Side.relA (D34.get 1 rfl)) :) ?_;rintro _ w35 ⟨rfl,Q35⟩;refine ⟨_,rfl,(((Ext.refl _).trans Q33.fr).trans Q35.fr),?_⟩;have D36:=D34.call0 Q35;refine RH.ho 10 rfl (V.maxi rfl rfl) ?_;refine dq [12] ?_;refine RH.dn ?_;refine bD Y 2 7 (λh37 Y=>?_) (λh37 Y=>?_)
  ·refine Rn.q rfl (V.ldBA [_,_,_,_,_,_] V36 O36 rfl (D36.get 2 rfl) rfl rfl) (gg 1 rfl ?_);obtain ⟨p38,e38,Y⟩:=bindE Y;refine Rn.cq (cK func78) (m_hist_Down_sim (Z0:=All) e38 (T_api_Hist.relA (D36.get 0 rfl) (D36.get 1 rfl)) :) ?_;rintro _ w38 ⟨A38_0_0,c38_0_0,A38_0_1,c38_0_1,rfl,Q38⟩;refine ⟨_,rfl,?_⟩;have D41:=D36.callF (flC (ownR_flat w64_flat _ _ _ _) (flC (ownR_flat w64_flat _ _ _ _) fl0)) Q38;refine gg 2 rfl (Rn.sn D41 3 O36 λw42 D43=>?_);refine gg 2 rfl ?_;refine Rn.retG2 func28 rfl (rvC rfl V36 O36 (D43.get 3 rfl) rfl) (rvT rfl) ?_;obtain rfl:=someE Y;exact ⟨A38_0_0,c38_0_0,A38_0_1,c38_0_1,rfl,D43.pk [4,5]⟩
  exact N30 (W64 (y29+1)) _ _ sA (D36.pk [0,1,2,3]) Y
 exact K1 () _ _ sA (D30.pk [0,1,2,3]) Y
theorem m_table_Table_convert_kept_Get_sim {x0:T_table_Table_convert_kept_} {x1:(List UInt8)} {r:(T_convert_kept×Bool)} (Y:m_table_Table_convert_kept_Get x0 x1=some r) (hL:Lent Z0 w [T_table_Table_convert_kept_.obj F0 b0 x0]) :
 Calls prog 29 #[pt b0 0,Str (x1)] w λx w'=>∃ A_0_0 c_0_0 A_0_1 c_0_1 A_0_2 c_0_2 A_0_3 c_0_3 A_0_4 c_0_4 F_p0,x=.returned (.tuple #[.agg [.bool (r.1.State.Some),iv r.1.State.Start,iv r.1.State.Time,iv r.1.State.Int_,u64v r.1.State.Re,u64v r.1.State.Im,iv r.1.State.Hist.Scale,u64v r.1.State.Hist.Zero,iv r.1.State.Hist.Pos.Offset,.slice A_0_0 (r.1.State.Hist.Pos.Counts).length c_0_0,iv r.1.State.Hist.Neg.Offset,.slice A_0_1 (r.1.State.Hist.Neg.Counts).length c_0_1,Str (r.1.series.Name),.slice A_0_2 (r.1.series.Attrs).length c_0_2,iv r.1.series.Kind,iv r.1.series.Temp,.bool (r.1.series.Mono),iv r.1.series.Start,iv r.1.series.Time,iv r.1.series.Int_,u64v r.1.series.Re,u64v r.1.series.Im,iv r.1.series.Hist.Scale,u64v r.1.series.Hist.Zero,iv r.1.series.Hist.Pos.Offset,.slice A_0_3 (r.1.series.Hist.Pos.Counts).length c_0_3,iv r.1.series.Hist.Neg.Offset,.slice A_0_4 (r.1.series.Hist.Neg.Counts).length c_0_4,iv r.1.series.Flags].toArray,.bool (r.2)])∧Hp Z0 (LS [T_table_Table_convert_kept_.obj F0 b0 x0]) w w' [slR A_0_0 c_0_0 w64R r.1.State.Hist.Pos.Counts,slR A_0_1 c_0_1 w64R r.1.State.Hist.Neg.Counts,slR A_0_2 c_0_2 T_api_Pair.rep r.1.series.Attrs,slR A_0_3 c_0_3 w64R r.1.series.Hist.Pos.Counts,slR A_0_4 c_0_4 w64R r.1.series.Hist.Neg.Counts,T_table_Table_convert_kept_.obj F_p0 b0 x0]:=by
 have D0:=hL.start;refine eg func29 2 ?_
 refine Rn.al D0 Tryz.zeroValue72 λb2 w2 D4=>?_
 replace D4:=D4.nb;refine gg 7 rfl ?_;obtain ⟨_,⟨m5_0,rfl⟩,D5⟩:=D4.unf 0 rfl;replace D5:=D5.nq;refine Rn.q rfl (V.ldB V130 rfl (D5.get 1 rfl) rfl) (gg 1 rfl ?_);obtain ⟨vs7,hl7,hr7⟩:=Map.lkp (D5.get 2 rfl) x1 (zs:=[.bool false,iv 0,iv 0,iv 0,u64v (0:UInt64),u64v (0:UInt64),iv 0,u64v (0:UInt64),iv 0,.slice none 0 0,iv 0,.slice none 0 0,Str (([]:List UInt8)),.slice none 0 0,iv 0,iv 0,.bool false,iv 0,iv 0,iv 0,u64v (0:UInt64),u64v (0:UInt64),iv 0,u64v (0:UInt64),iv 0,.slice none 0 0,iv 0,.slice none 0 0,iv 0,iv 0]) (zm:=(zl136:T_table_slot_convert_kept_)) (show T_table_slot_convert_kept_.rep.rel _ _ _ _ from (T_table_slot_convert_kept_.relI (slR_nil _ _) (slR_nil _ _) (slR_nil _ _) (slR_nil _ _) (slR_nil _ _)));obtain ⟨Ar8,cr8,Ar10,cr10,Ar12,cr12,Ar14,cr14,Ar16,cr16,rfl,fs8,fs10,fs12,fs14,fs16⟩:=T_table_slot_convert_kept_.relE hr7;have D18:=Hp.knowL [slR Ar8 cr8 w64R (((((((lookP x1 x0.m).getD zl136).v).State).Hist).Pos).Counts),slR Ar10 cr10 w64R (((((((lookP x1 x0.m).getD zl136).v).State).Hist).Neg).Counts),slR Ar12 cr12 T_api_Pair.rep (((((lookP x1 x0.m).getD zl136).v).series).Attrs),slR Ar14 cr14 w64R (((((((lookP x1 x0.m).getD zl136).v).series).Hist).Pos).Counts),slR Ar16 cr16 w64R (((((((lookP x1 x0.m).getD zl136).v).series).Hist).Neg).Counts)] _ D5 (knC (λ_ h=>h) fs8 (knC (λ_ h=>h) fs10 (knC (λ_ h=>h) fs12 (knC (λ_ h=>h) fs14 (knC (λ_ h=>h) fs16 kn0)))));refine Rn.q rfl (V.lkpHO hl7 U130 U9 Tryz.zeroValue136 rfl rfl) (gg 3 rfl (Rn.als rfl rfl rfl Tryz.zeroValue136 rfl O136 rfl rfl rfl rfl (by first|exact ones rfl|(simp [Value.oneCell'];done)) ?_));intro b19 w19 hb19 m19 e19;have D21:=(D18.addBox hb19 e19 m19).nb;refine gg 5 rfl (Rn.q rfl (V.ldBA [_,_,_,_,_,_,_,_,_,_,_,_,_,_,_,_,_,_,_,_,_,_,_,_,_,_,_,_,_] V72 O72 rfl (D21.get 8 rfl) rfl rfl) (gg 1 rfl (Rn.stF rfl rfl O72 rfl rfl rfl rfl (by first|exact ones rfl|(simp [Value.oneCell'];done)) (D21.get 0 rfl) rfl ?_)));intro w22 m22 x22;have D23:=D21.sn 0 x22 m22;refine gg 2 rfl ?_;have D25:=D23.cu [0,3,4,5,6,7,8] [1,2];obtain ⟨F24,D24⟩:=D25.fold (T_table_Table_convert_kept_.sh b0 x0) ⟨m5_0,rfl⟩;refine Rn.retG2 func29 rfl (rvC rfl V72 O72 (D23.get 0 rfl) rfl) (rvT rfl) ?_;obtain rfl:=someE Y;exact ⟨Ar8,cr8,Ar10,cr10,Ar12,cr12,Ar14,cr14,Ar16,cr16,F24,rfl,D24.pk [1,2,3,4,5,7]⟩
theorem m_table_Table_convert_kept_Room_sim {x0:T_table_Table_convert_kept_} {r:Int} (Y:m_table_Table_convert_kept_Room x0=some r) (f0:(fzR (T_table_Table_convert_kept_.obj F0 b0 x0)).H Z0 w) :
 Calls prog 30 #[pt b0 0] w λx w'=>x=.returned (iv r)∧Hp Z0 No w w' []:=by
 obtain ⟨D0,D2,hc0⟩:=knA f0;refine eg func30 5 ?_;obtain ⟨_,⟨m4_0,rfl⟩,D4⟩:=D2.unfz 0 rfl;replace D4:=D4.nq;refine Rn.drawP rfl D4 ?_;intro w3 D3;refine dq [0,1,2] ?_;refine RH.tp 3 rfl (V.ldB V3 rfl (D3.getz 1 rfl) rfl) ?_;refine dq [4,5,6] ?_;refine RH.tp 7 rfl (V.ldB V130 rfl (D3.getz 1 rfl) rfl) ?_;refine RH.tp 8 rfl (V.lenMH U130 rfl (D3.getz 2 rfl)) ?_;refine dq [9,10] ?_;refine RH.dn ?_
 cases Y
 exact Rn.R1 func30 ⟨rfl,D3.pk []⟩
theorem m_slices_Clone_uint64_uint64_sim {x0:(List UInt64)} {r:(List UInt64)} (Y:m_slices_Clone_uint64_uint64 x0=some r) (f0:(slR A0 c0 w64R x0).H Z0 w) :
 Calls prog 180 #[.slice A0 (x0).length c0] w λx w'=>∃ A_0_0 c_0_0,x=.returned (.slice A_0_0 (r).length c_0_0)∧Hp Z0 No w w' [ownR 31 A_0_0 c_0_0 w64R r]:=by
 exact clone_180 w A0 c0 x0 f0 Y
theorem m_hist_Clone_sim {x0:T_api_Hist} {r:T_api_Hist} (Y:m_hist_Clone x0=some r) (h0:T_api_Hist.rep.rel Z0 w cs0 x0) :
 Calls prog 130 #[.agg cs0.toArray] w λx w'=>∃ A_0_0 c_0_0 A_0_1 c_0_1,x=.returned (.agg [iv r.Scale,u64v r.Zero,iv r.Pos.Offset,.slice A_0_0 (r.Pos.Counts).length c_0_0,iv r.Neg.Offset,.slice A_0_1 (r.Neg.Counts).length c_0_1].toArray)∧Hp Z0 No w w' [ownR 31 A_0_0 c_0_0 w64R r.Pos.Counts,ownR 31 A_0_1 c_0_1 w64R r.Neg.Counts]:=by
 have D0:=Hp.nil Z0 No w;have hc0:=Calm.nil;obtain ⟨Ar1,cr1,Ar3,cr3,rfl,fs1,fs3⟩:=T_api_Hist.relE h0;obtain ⟨D5,hc0⟩:=D0.kn hc0 fs1;obtain ⟨D6,hc0⟩:=D5.kn hc0 fs3;refine eg func130 2 ?_
 refine Rn.bx D6 λb7 w7 D9=>?_
 replace D9:=D9.nb
 refine Rn.al D9 Tryz.zeroValue36 λb10 w10 D12=>?_
 replace D12:=D12.nb;refine gg 2 rfl ?_;refine Rn.drawK 10 rfl D12 (by kernel_rfl) ?_;intro w13 D13;refine dq [0,1] ?_;refine RH.tk 2 rfl (λw' hDr=>V.ldB V32 rfl ((D13.ext hDr).get 2 rfl) rfl) ?_;refine dq [4,5] ?_;refine RH.tk 6 rfl (λw' hDr=>V.ldB V32 rfl ((D13.ext hDr).get 2 rfl) rfl) ?_;obtain ⟨p14,e14,Y⟩:=bindE Y;refine RH.cq (cK func180) 3 (m_slices_Clone_uint64_uint64_sim (Z0:=All) e14 (slR_all (D13.get 0 rfl)) :) ?_;rintro _ w14 ⟨A14_0_0,c14_0_0,rfl,Q14⟩;refine ⟨_,rfl,((Ext.refl _).trans Q14.fr),?_⟩;have D16:=D13.callF (flC (ownR_flat w64_flat _ _ _ _) fl0) Q14;refine dq [8,9] ?_;obtain ⟨p17,e17,Y⟩:=bindE Y;refine RH.cq (cK func180) 7 (m_slices_Clone_uint64_uint64_sim (Z0:=All) e17 (slR_all (D16.get 1 rfl)) :) ?_;rintro _ w17 ⟨A17_0_0,c17_0_0,rfl,Q17⟩;refine ⟨_,rfl,(((Ext.refl _).trans Q14.fr).trans Q17.fr),?_⟩;have D19:=D16.callF (flC (ownR_flat w64_flat _ _ _ _) fl0) Q17;refine RG.tailK (by kernel_rfl) ?_
 refine RH.sn 10 D19 2 O32 λw20 D21=>?_
 refine ⟨trivial,?_⟩;refine dq [11,12] ?_
 refine RH.sn 13 D21 2 O32 λw22 D23=>?_
 refine ⟨trivial,?_⟩;refine RH.dn ?_;refine gg 2 rfl (Rn.q rfl (V.ldBA [_,_,_,_,_,_] V36 O36 rfl (D23.get 2 rfl) rfl rfl) (Rn.sn D23 3 O36 λw24 D25=>?_));refine gg 1 rfl ?_;refine Rn.retG1 func130 rfl (rvC rfl V36 O36 (D25.get 3 rfl) rfl) ?_;obtain rfl:=someE Y;exact ⟨A14_0_0,c14_0_0,A17_0_0,c17_0_0,rfl,D25.pk [4,5]⟩
end Go.Proofs.YtaikmpmokihciaaGreat
