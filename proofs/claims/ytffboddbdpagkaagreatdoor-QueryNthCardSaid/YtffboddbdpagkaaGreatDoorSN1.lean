import Derived.Test.YtffboddbdpagkaaGreatDoorRows
import Derived.Test.YtffboddbdpagkaaGreatDoorVN2
import Derived.Test.YtffboddbdpagkaaGreatDoorNN
set_option maxRecDepth 20000
set_option maxHeartbeats 4000000
set_option linter.unusedVariables false
set_option linter.unusedSimpArgs false
namespace Go.Proofs.YtffboddbdpagkaaGreatDoor
open Go Go.RowKit Go.Wk _root_.Go.Proofs.Tryz
open _root_.Go.Proofs.Tryz renaming underlying3→U3,underlying5→U5,underlying9→U9,underlying22→U22,underlying23→U23,underlying25→U25,underlying30→U30,underlying33→U33,underlying39→U39,underlying40→U40,underlying42→U42,underlying44→U44,underlying47→U47,underlying59→U59,underlying63→U63,underlying65→U65,underlying67→U67,underlying72→U72,underlying76→U76,underlying80→U80,underlying92→U92,underlying101→U101,underlying102→U102,underlying107→U107,underlying109→U109,underlying113→U113,underlying124→U124,underlying153→U153,underlying155→U155,underlying157→U157,underlying159→U159,underlying167→U167,underlying169→U169,underlying199→U199,underlying229→U229,isAgg3→V3,isAgg4→V4,isAgg5→V5,isAgg9→V9,isAgg30→V30,isAgg33→V33,isAgg39→V39,isAgg40→V40,isAgg42→V42,isAgg44→V44,isAgg47→V47,isAgg63→V63,isAgg65→V65,isAgg102→V102,isAgg107→V107,isAgg113→V113,isAgg124→V124,isAgg167→V167,sizeOf3→O3,sizeOf4→O4,sizeOf5→O5,sizeOf9→O9,sizeOf23→O23,sizeOf30→O30,sizeOf33→O33,sizeOf39→O39,sizeOf40→O40,sizeOf42→O42,sizeOf44→O44,sizeOf47→O47,sizeOf63→O63,sizeOf65→O65,sizeOf67→O67,sizeOf102→O102,sizeOf107→O107,sizeOf113→O113,sizeOf124→O124,sizeOf151→O151,sizeOf155→O155,sizeOf167→O167
variable {Z0:Nat→Prop} {w:World} {F0:Nat→Prop} {F1:Nat→Prop} {F2:Nat→Prop} {F3:Nat→Prop} {F4:Nat→Prop} {F5:Nat→Prop} {b0:Nat} {b1:Nat} {b2:Nat} {b3:Nat} {b4:Nat} {b5:Nat} {A0:Option Addr} {A1:Option Addr} {A2:Option Addr} {A3:Option Addr} {A4:Option Addr} {A5:Option Addr} {c0:Nat} {c1:Nat} {c2:Nat} {c3:Nat} {c4:Nat} {c5:Nat} {cs0:List Value} {cs1:List Value} {cs2:List Value} {cs3:List Value}
def gl2:List Value:=[iv 0,iv 0]
theorem st25:StOk prog 25 [.slice none 0 0,.int .i64 0,.int .i64 0] [(0,1),(1,1),(2,1)]:=⟨Tryz.zeroValue25,_,U25,λw=>by kernel_rfl⟩
theorem st42:StOk prog 42 [.int .i64 0,.slice none 0 0] [(0,1),(1,1)]:=⟨Tryz.zeroValue42,_,U42,λw=>by kernel_rfl⟩
theorem st44:StOk prog 44 [.int .i64 0,.int .u64 0,.int .i64 0,.slice none 0 0,.int .i64 0,.slice none 0 0] [(0,1),(1,1),(2,2),(4,2)]:=⟨Tryz.zeroValue44,_,U44,λw=>by kernel_rfl⟩
theorem st47:StOk prog 47 [.int .i64 0,.int .i64 0] [(0,1),(1,1)]:=⟨Tryz.zeroValue47,_,U47,λw=>by kernel_rfl⟩
theorem st59:StOk prog 59 [.int .i64 0,.int .i64 0,.int .u64 0] [(0,2),(2,1)]:=⟨Tryz.zeroValue59,_,U59,λw=>by kernel_rfl⟩
theorem st65:StOk prog 65 [Str [],.slice none 0 0,.int .i64 0,.int .i64 0,.bool false,.int .i64 0,.int .i64 0,.int .i64 0,.int .u64 0,.int .u64 0,.int .i64 0,.int .u64 0,.int .i64 0,.slice none 0 0,.int .i64 0,.slice none 0 0,.int .i64 0] [(0,1),(1,1),(2,1),(3,1),(4,1),(5,1),(6,1),(7,1),(8,1),(9,1),(10,6),(16,1)]:=⟨Tryz.zeroValue65,_,U65,λw=>by kernel_rfl⟩
theorem st109:StOk prog 109 [.slice none 0 0,.map none] [(0,1),(1,1)]:=⟨Tryz.zeroValue109,_,U109,λw=>by kernel_rfl⟩
theorem st113:StOk prog 113 [Str [],Str []] [(0,1),(1,1)]:=⟨Tryz.zeroValue113,_,U113,λw=>by kernel_rfl⟩
theorem st153:StOk prog 153 [Str [],.slice none 0 0] [(0,1),(1,1)]:=⟨Tryz.zeroValue153,_,U153,λw=>by kernel_rfl⟩
theorem st157:StOk prog 157 [.int .i64 0,.int .u64 0,.int .u64 0,.int .u64 0,.int .u64 0,.bool false,.int .u8 0] [(0,1),(1,4),(5,1),(6,1)]:=⟨Tryz.zeroValue157,_,U157,λw=>by kernel_rfl⟩
theorem st159:StOk prog 159 [.int .i64 0,.int .i64 0] [(0,1),(1,1)]:=⟨Tryz.zeroValue159,_,U159,λw=>by kernel_rfl⟩
theorem ar102:ArOk prog 102 [.int .i64 0,.slice none 0 0,.int .i64 0,.slice none 0 0] 2 2 42:=⟨Tryz.zeroValue102,U102,O42⟩
theorem ar155:ArOk prog 155 [.int .u64 0,.int .u64 0,.int .u64 0,.int .u64 0] 4 1 39:=⟨Tryz.zeroValue155,U155,O39⟩
theorem fo25:FoOk prog 25 [0,1,2]:=⟨_,U25,⟨_,O23,rfl⟩,rfl,⟨_,O3,rfl⟩,rfl,⟨_,O3,rfl⟩,rfl,trivial⟩
theorem fo42:FoOk prog 42 [0,1]:=⟨_,U42,⟨_,O3,rfl⟩,rfl,⟨_,O40,rfl⟩,rfl,trivial⟩
theorem fo44:FoOk prog 44 [0,1,2,4]:=⟨_,U44,⟨_,O3,rfl⟩,rfl,⟨_,O39,rfl⟩,rfl,⟨_,O42,rfl⟩,rfl,⟨_,O42,rfl⟩,rfl,trivial⟩
theorem fo47:FoOk prog 47 [0,1]:=⟨_,U47,⟨_,O3,rfl⟩,rfl,⟨_,O3,rfl⟩,rfl,trivial⟩
theorem fo59:FoOk prog 59 [0,2]:=⟨_,U59,⟨_,O47,rfl⟩,rfl,⟨_,O39,rfl⟩,rfl,trivial⟩
theorem fo65:FoOk prog 65 [0,1,2,3,4,5,6,7,8,9,10,16]:=⟨_,U65,⟨_,O9,rfl⟩,rfl,⟨_,O63,rfl⟩,rfl,⟨_,O3,rfl⟩,rfl,⟨_,O3,rfl⟩,rfl,⟨_,O4,rfl⟩,rfl,⟨_,O3,rfl⟩,rfl,⟨_,O3,rfl⟩,rfl,⟨_,O3,rfl⟩,rfl,⟨_,O39,rfl⟩,rfl,⟨_,O39,rfl⟩,rfl,⟨_,O44,rfl⟩,rfl,⟨_,O3,rfl⟩,rfl,trivial⟩
theorem fo67:FoOk prog 67 [0,1,2,3,4]:=⟨_,U67,⟨_,O9,rfl⟩,rfl,⟨_,O3,rfl⟩,rfl,⟨_,O3,rfl⟩,rfl,⟨_,O3,rfl⟩,rfl,⟨_,O65,rfl⟩,rfl,trivial⟩
theorem fo72:FoOk prog 72 [0,1,2]:=⟨_,U72,⟨_,O9,rfl⟩,rfl,⟨_,O9,rfl⟩,rfl,⟨_,O4,rfl⟩,rfl,trivial⟩
theorem fo80:FoOk prog 80 [0,21]:=⟨_,U80,⟨_,O67,rfl⟩,rfl,⟨_,O4,rfl⟩,rfl,trivial⟩
theorem fo109:FoOk prog 109 [0,1]:=⟨_,U109,⟨_,O33,rfl⟩,rfl,⟨_,O107,rfl⟩,rfl,trivial⟩
theorem fo113:FoOk prog 113 [0,1]:=⟨_,U113,⟨_,O9,rfl⟩,rfl,⟨_,O9,rfl⟩,rfl,trivial⟩
theorem fo153:FoOk prog 153 [0,1]:=⟨_,U153,⟨_,O9,rfl⟩,rfl,⟨_,O151,rfl⟩,rfl,trivial⟩
theorem fo157:FoOk prog 157 [0,1,5,6]:=⟨_,U157,⟨_,O3,rfl⟩,rfl,⟨_,O155,rfl⟩,rfl,⟨_,O4,rfl⟩,rfl,⟨_,O5,rfl⟩,rfl,trivial⟩
theorem fo159:FoOk prog 159 [0,1]:=⟨_,U159,⟨_,O3,rfl⟩,rfl,⟨_,O30,rfl⟩,rfl,trivial⟩
def tab:List (Nat×List Nat):=[(25,[0,1,2]),(42,[0,1]),(44,[0,1,2,4]),(47,[0,1]),(59,[0,2]),(65,[0,1,2,3,4,5,6,7,8,9,10,16]),(67,[0,1,2,3,4]),(72,[0,1,2]),(80,[0,21]),(109,[0,1]),(113,[0,1]),(153,[0,1]),(157,[0,1,5,6]),(159,[0,1])]
theorem tabOk:TabOk prog tab:=(.cons fo25 (.cons fo42 (.cons fo44 (.cons fo47 (.cons fo59 (.cons fo65 (.cons fo67 (.cons fo72 (.cons fo80 (.cons fo109 (.cons fo113 (.cons fo153 (.cons fo157 (.cons fo159 TabOk.nil))))))))))))))
theorem gg {f:FuncId} {n:Nat} {R:Ending→World→Prop} {k k':List Item} {e e':Env} {w:World} (m:Nat) (h:sr tab n m k e=some (k',e')) (hr:Rn prog f n R k' e' w):Rn prog f n R k e w:=sr_ok tabOk m k e h hr
theorem eg {f:FuncId} {n:Nat} {R:Ending→World→Prop} {k':List Item} {e':Env} {w:World} {fn:Func} {c:Code} {args:List Value} (hf:prog.funcs[f]?=some fn) (m:Nat) (hr:Rn prog f n R k' e' w) (hb:fn.body=some c:=by exact rfl) (hn:fn.ntmps=n:=by exact rfl) (hl:args.length≤n:=by exact nbl rfl) (h:sr tab n m [.code c] (argEnv 0 args)=some (k',e'):=by exact rfl):Calls prog f args.toArray w R:=Rn.enter hf hb hn hl (gg m h hr)
theorem bD {f:FuncId} {n:Nat} {R:Ending→World→Prop} {k k1 k2:List Item} {e e1 e2:Env} {w:World} {β:Type} {a b:Option β} {r:β} {p:Prop} [Decidable p] {c:Operand} {x y:Code} (Y:(if p then a else b)=some r) (m1 m2:Nat) (ht:p→a=some r→Rn prog f n R k1 e1 w) (hf:¬p→b=some r→Rn prog f n R k2 e2 w) (hc:ev e c=some (.bool (decide p)):=by exact rfl) (h1:sr tab n m1 (.code x::k) e=some (k1,e1):=by exact rfl) (h2:sr tab n m2 (.code y::k) e=some (k2,e2):=by exact rfl):Rn prog f n R (.code (.cond c x y)::k) e w:=aD Y (λh Y=>gg m1 h1 (ht h Y)) (λh Y=>gg m2 h2 (hf h Y)) hc
theorem bS {f:FuncId} {n:Nat} {R:Ending→World→Prop} {k k1 k2:List Item} {e e1 e2:Env} {w:World} {β:Type} {a b:Option β} {r:β} {t:Bool} {c:Operand} {x y:Code} (Y:(if t=true then a else b)=some r) (m1 m2:Nat) (ht:t=true→a=some r→Rn prog f n R k1 e1 w) (hf:t=false→b=some r→Rn prog f n R k2 e2 w) (hc:ev e c=some (.bool t):=by exact rfl) (h1:sr tab n m1 (.code x::k) e=some (k1,e1):=by exact rfl) (h2:sr tab n m2 (.code y::k) e=some (k2,e2):=by exact rfl):Rn prog f n R (.code (.cond c x y)::k) e w:=aS Y (λh Y=>gg m1 h1 (ht h Y)) (λh Y=>gg m2 h2 (hf h Y)) hc
theorem dd {n:Nat} {K:Act→World→Prop} {S:World→Prop} {w:World} {ops:Array Oper} {fuel:Nat} {listed:Array Bool} {e e':Env} (is:List Nat) (hk:okTakes ops listed is=true) (hf:Nat.ble is.length fuel=true) (h:dr tab n ops is e=some e') (hr:RG prog n K ops S (fuel-is.length) (taken listed is) e' w):RG prog n K ops S fuel listed e w:=dr_ok tabOk is hk hf h hr
theorem dq {n:Nat} {K:Act→World→Prop} {S:World→Prop} {w:World} {ops:Array Oper} {fuel:Nat} {listed:Array Bool} {e e':Env} (is:List Nat) (hr:RG prog n K ops S (fuel-is.length) (taken listed is) e' w) (hk:okTakes ops listed is=true:=by kernel_rfl) (hf:Nat.ble is.length fuel=true:=by exact rfl) (h:dr tab n ops is e=some e':=by exact rfl):RG prog n K ops S fuel listed e w:=dr_ok tabOk is hk hf h hr
theorem T_api_Side.relE {Z:Nat→Prop} {w:World} {vs:List _root_.Go.Value} {x:T_api_Side} (h:T_api_Side.rep.rel Z w vs x):∃ (Ar1:Option Addr) (cr1:Nat),vs=[iv x.Offset,.slice Ar1 (x.Counts).length cr1]∧(slR Ar1 cr1 w64R x.Counts).H Z w:=by
 obtain ⟨_,_,rfl,⟨rfl,_⟩,⟨Ar1,cr1,rfl,p1,q1,s1⟩⟩:=h;exact ⟨Ar1,cr1,rfl,⟨p1,q1,s1⟩⟩
theorem T_api_Hist.relE {Z:Nat→Prop} {w:World} {vs:List _root_.Go.Value} {x:T_api_Hist} (h:T_api_Hist.rep.rel Z w vs x):∃ (Ar1:Option Addr) (cr1:Nat) (Ar3:Option Addr) (cr3:Nat),vs=[iv x.Scale,u64v x.Zero,iv x.Pos.Offset,.slice Ar1 (x.Pos.Counts).length cr1,iv x.Neg.Offset,.slice Ar3 (x.Neg.Counts).length cr3]∧(slR Ar1 cr1 w64R x.Pos.Counts).H Z w∧(slR Ar3 cr3 w64R x.Neg.Counts).H Z w:=by
 obtain ⟨_,_,rfl,⟨rfl,_⟩,⟨_,_,rfl,⟨rfl,_⟩,⟨_,_,rfl,⟨_,_,rfl,⟨rfl,_⟩,⟨Ar1,cr1,rfl,p1,q1,s1⟩⟩,⟨_,_,rfl,⟨rfl,_⟩,⟨Ar3,cr3,rfl,p3,q3,s3⟩⟩⟩⟩⟩:=h;exact ⟨Ar1,cr1,Ar3,cr3,rfl,⟨p1,q1,s1⟩,⟨p3,q3,s3⟩⟩
theorem T_api_Pair.relE {Z:Nat→Prop} {w:World} {vs:List _root_.Go.Value} {x:T_api_Pair} (h:T_api_Pair.rep.rel Z w vs x):vs=[Str (x.Key),Str (x.Val)]:=by
 obtain ⟨_,_,rfl,⟨rfl,_⟩,⟨rfl,_⟩⟩:=h;exact rfl
theorem T_api_Point.relE {Z:Nat→Prop} {w:World} {vs:List _root_.Go.Value} {x:T_api_Point} (h:T_api_Point.rep.rel Z w vs x):∃ (Ar1:Option Addr) (cr1:Nat) (Ar3:Option Addr) (cr3:Nat) (Ar5:Option Addr) (cr5:Nat),vs=[Str (x.Name),.slice Ar1 (x.Attrs).length cr1,iv x.Kind,iv x.Temp,.bool (x.Mono),iv x.Start,iv x.Time,iv x.Int_,u64v x.Re,u64v x.Im,iv x.Hist.Scale,u64v x.Hist.Zero,iv x.Hist.Pos.Offset,.slice Ar3 (x.Hist.Pos.Counts).length cr3,iv x.Hist.Neg.Offset,.slice Ar5 (x.Hist.Neg.Counts).length cr5,iv x.Flags]∧(slR Ar1 cr1 T_api_Pair.rep x.Attrs).H Z w∧(slR Ar3 cr3 w64R x.Hist.Pos.Counts).H Z w∧(slR Ar5 cr5 w64R x.Hist.Neg.Counts).H Z w:=by
 obtain ⟨_,_,rfl,⟨rfl,_⟩,⟨_,_,rfl,⟨Ar1,cr1,rfl,p1,q1,s1⟩,⟨_,_,rfl,⟨rfl,_⟩,⟨_,_,rfl,⟨rfl,_⟩,⟨_,_,rfl,⟨rfl,_⟩,⟨_,_,rfl,⟨rfl,_⟩,⟨_,_,rfl,⟨rfl,_⟩,⟨_,_,rfl,⟨rfl,_⟩,⟨_,_,rfl,⟨rfl,_⟩,⟨_,_,rfl,⟨rfl,_⟩,⟨_,_,rfl,⟨_,_,rfl,⟨rfl,_⟩,⟨_,_,rfl,⟨rfl,_⟩,⟨_,_,rfl,⟨_,_,rfl,⟨rfl,_⟩,⟨Ar3,cr3,rfl,p3,q3,s3⟩⟩,⟨_,_,rfl,⟨rfl,_⟩,⟨Ar5,cr5,rfl,p5,q5,s5⟩⟩⟩⟩⟩,⟨rfl,_⟩⟩⟩⟩⟩⟩⟩⟩⟩⟩⟩⟩:=h;exact ⟨Ar1,cr1,Ar3,cr3,Ar5,cr5,rfl,⟨p1,q1,s1⟩,⟨p3,q3,s3⟩,⟨p5,q5,s5⟩⟩
theorem T_api_Query.relE {Z:Nat→Prop} {w:World} {vs:List _root_.Go.Value} {x:T_api_Query} (h:T_api_Query.rep.rel Z w vs x):∃ (Ar1:Option Addr) (cr1:Nat),vs=[.slice Ar1 (x.Match).length cr1,iv x.From,iv x.To]∧(slR Ar1 cr1 T_api_Match.rep x.Match).H Z w:=by
 obtain ⟨_,_,rfl,⟨Ar1,cr1,rfl,p1,q1,s1⟩,⟨_,_,rfl,⟨rfl,_⟩,⟨rfl,_⟩⟩⟩:=h;exact ⟨Ar1,cr1,rfl,⟨p1,q1,s1⟩⟩
theorem T_glob_piece.relE {Z:Nat→Prop} {w:World} {vs:List _root_.Go.Value} {x:T_glob_piece} (h:T_glob_piece.rep.rel Z w vs x):vs=[iv x.kind,u64v x.set.a0,u64v x.set.a1,u64v x.set.a2,u64v x.set.a3,.bool (x.plain),u8v x.c]:=by
 obtain ⟨_,_,rfl,⟨rfl,_⟩,⟨_,_,rfl,⟨_,_,rfl,⟨rfl,_⟩,⟨_,_,rfl,⟨rfl,_⟩,⟨_,_,rfl,⟨rfl,_⟩,⟨rfl,_⟩⟩⟩⟩,⟨_,_,rfl,⟨rfl,_⟩,⟨rfl,_⟩⟩⟩⟩:=h;exact rfl
theorem T_api_Row.relE {Z:Nat→Prop} {w:World} {vs:List _root_.Go.Value} {x:T_api_Row} (h:T_api_Row.rep.rel Z w vs x):∃ (Ar1:Option Addr) (cr1:Nat) (Ar3:Option Addr) (cr3:Nat) (Ar5:Option Addr) (cr5:Nat),vs=[Str (x.Key),iv x.Count,iv x.First,iv x.Last,Str (x.Value.Name),.slice Ar1 (x.Value.Attrs).length cr1,iv x.Value.Kind,iv x.Value.Temp,.bool (x.Value.Mono),iv x.Value.Start,iv x.Value.Time,iv x.Value.Int_,u64v x.Value.Re,u64v x.Value.Im,iv x.Value.Hist.Scale,u64v x.Value.Hist.Zero,iv x.Value.Hist.Pos.Offset,.slice Ar3 (x.Value.Hist.Pos.Counts).length cr3,iv x.Value.Hist.Neg.Offset,.slice Ar5 (x.Value.Hist.Neg.Counts).length cr5,iv x.Value.Flags]∧(slR Ar1 cr1 T_api_Pair.rep x.Value.Attrs).H Z w∧(slR Ar3 cr3 w64R x.Value.Hist.Pos.Counts).H Z w∧(slR Ar5 cr5 w64R x.Value.Hist.Neg.Counts).H Z w:=by
 obtain ⟨_,_,rfl,⟨rfl,_⟩,⟨_,_,rfl,⟨rfl,_⟩,⟨_,_,rfl,⟨rfl,_⟩,⟨_,_,rfl,⟨rfl,_⟩,⟨_,_,rfl,⟨rfl,_⟩,⟨_,_,rfl,⟨Ar1,cr1,rfl,p1,q1,s1⟩,⟨_,_,rfl,⟨rfl,_⟩,⟨_,_,rfl,⟨rfl,_⟩,⟨_,_,rfl,⟨rfl,_⟩,⟨_,_,rfl,⟨rfl,_⟩,⟨_,_,rfl,⟨rfl,_⟩,⟨_,_,rfl,⟨rfl,_⟩,⟨_,_,rfl,⟨rfl,_⟩,⟨_,_,rfl,⟨rfl,_⟩,⟨_,_,rfl,⟨_,_,rfl,⟨rfl,_⟩,⟨_,_,rfl,⟨rfl,_⟩,⟨_,_,rfl,⟨_,_,rfl,⟨rfl,_⟩,⟨Ar3,cr3,rfl,p3,q3,s3⟩⟩,⟨_,_,rfl,⟨rfl,_⟩,⟨Ar5,cr5,rfl,p5,q5,s5⟩⟩⟩⟩⟩,⟨rfl,_⟩⟩⟩⟩⟩⟩⟩⟩⟩⟩⟩⟩⟩⟩⟩⟩:=h;exact ⟨Ar1,cr1,Ar3,cr3,Ar5,cr5,rfl,⟨p1,q1,s1⟩,⟨p3,q3,s3⟩,⟨p5,q5,s5⟩⟩
theorem T_limnographref37_Step.relE {Z:Nat→Prop} {w:World} {vs:List _root_.Go.Value} {x:T_limnographref37_Step} (h:T_limnographref37_Step.rep.rel Z w vs x):vs=[iv x.B.Side,iv x.B.Index,u64v x.N]:=by
 obtain ⟨_,_,rfl,⟨_,_,rfl,⟨rfl,_⟩,⟨rfl,_⟩⟩,⟨rfl,_⟩⟩:=h;exact rfl
theorem el3:ElOk prog 3 1 8:=elOk_of (by kernel_rfl) (by decide)
theorem el5:ElOk prog 5 1 1:=elOk_of (by kernel_rfl) (by decide)
theorem el9:ElOk prog 9 1 16:=elOk_of (by kernel_rfl) (by decide)
theorem el39:ElOk prog 39 1 8:=elOk_of (by kernel_rfl) (by decide)
theorem el59:ElOk prog 59 3 24:=elOk_of (by kernel_rfl) (by decide)
theorem el65:ElOk prog 65 17 192:=elOk_of (by kernel_rfl) (by decide)
theorem el67:ElOk prog 67 21 232:=elOk_of (by kernel_rfl) (by decide)
theorem el113:ElOk prog 113 2 32:=elOk_of (by kernel_rfl) (by decide)
theorem el157:ElOk prog 157 7 48:=elOk_of (by kernel_rfl) (by decide)
set_option maxRecDepth 20000 in
theorem clone_63 {Z0:Nat→Prop} (w:World) (A:Option Addr) (c:Nat) (l:List T_api_Pair) {r:List T_api_Pair} (h:(slR A c T_api_Pair.rep l).H Z0 w) (Y:appL [] l=some r) :
 Calls prog 63 #[.slice A l.length c] w λx w'=>∃ A' c',x=.returned (.slice A' r.length c')∧Hp Z0 No w w' [ownR 113 A' c' T_api_Pair.rep r]:=by
 have D0:=Hp.nil Z0 No w;have D1:=D0.know (slR A c T_api_Pair.rep l) (λ_ h=>h) (D0.in0 Calm.nil h);refine Rn.enter func63 rfl rfl (nbl rfl) ?_;refine Rn.seq (Rn.reg (Rn.v rfl rfl rfl rfl (V.as rfl) (Rn.regEnd (Rn.seq (Rn.seq (Rn.reg (Rn.v rfl rfl rfl rfl (V.mv rfl) (Rn.v rfl rfl rfl rfl (V.eqlV U63 rfl rfl) (Rn.regEnd ?_)))))))))
 cases A with
 | none=>
  obtain rfl:=clone_get h;obtain ⟨_,rfl⟩:=appE Y;refine Rn.condT rfl (Rn.seq (Rn.reg (Rn.v rfl rfl rfl rfl (V.as rfl) (Rn.regEnd ?_))));refine Rn.retG1 func63 rfl (rvT rfl) ?_;exact ⟨none,0,rfl,(D0.addNil 113 T_api_Pair.rep)⟩
 | some a=>
  refine Rn.condF rfl (Rn.skip (Rn.seq (Rn.reg ?_)));refine Rn.bslS (ps:=[]) (us:=[]) rfl rfl rfl U63 el113 rfl rfl rfl rfl (by simp) (by decide) ?_;intro b2 w2 hb2 m2 e2;have D2:=D1.addLit (rep:=T_api_Pair.rep) (xs:=([]:List T_api_Pair)) (vss:=[]) hb2 e2 m2 rfl rfl rfl rels0;refine Rn.v rfl rfl rfl rfl (V.mv rfl) (Rn.appH D2 1 rfl Y rfl rfl rfl U63 el113 rfl rfl rfl rfl (D2.src 0 rfl) ?_);intro A3 c3 w3 D3;refine Rn.v rfl rfl rfl rfl (V.as rfl) (Rn.regEnd ?_);refine Rn.retG1 func63 rfl (rvT rfl) ?_;exact ⟨A3,c3,rfl,D3.pick [1] rfl (by decide)⟩
set_option maxRecDepth 20000 in
theorem clone_137 {Z0:Nat→Prop} (w:World) (A:Option Addr) (c:Nat) (l:List UInt64) {r:List UInt64} (h:(slR A c w64R l).H Z0 w) (Y:appL [] l=some r) :
 Calls prog 137 #[.slice A l.length c] w λx w'=>∃ A' c',x=.returned (.slice A' r.length c')∧Hp Z0 No w w' [ownR 39 A' c' w64R r]:=by
 have D0:=Hp.nil Z0 No w;have D1:=D0.know (slR A c w64R l) (λ_ h=>h) (D0.in0 Calm.nil h);refine Rn.enter func137 rfl rfl (nbl rfl) ?_;refine Rn.seq (Rn.reg (Rn.v rfl rfl rfl rfl (V.as rfl) (Rn.regEnd (Rn.seq (Rn.seq (Rn.reg (Rn.v rfl rfl rfl rfl (V.mv rfl) (Rn.v rfl rfl rfl rfl (V.eqlV U40 rfl rfl) (Rn.regEnd ?_)))))))))
 cases A with
 | none=>
  obtain rfl:=clone_get h;obtain ⟨_,rfl⟩:=appE Y;refine Rn.condT rfl (Rn.seq (Rn.reg (Rn.v rfl rfl rfl rfl (V.as rfl) (Rn.regEnd ?_))));refine Rn.retG1 func137 rfl (rvT rfl) ?_;exact ⟨none,0,rfl,(D0.addNil 39 w64R)⟩
 | some a=>
  refine Rn.condF rfl (Rn.skip (Rn.seq (Rn.reg ?_)));refine Rn.bslS (ps:=[]) (us:=[]) rfl rfl rfl U40 el39 rfl rfl rfl rfl (by simp) (by decide) ?_;intro b2 w2 hb2 m2 e2;have D2:=D1.addLit (rep:=w64R) (xs:=([]:List UInt64)) (vss:=[]) hb2 e2 m2 rfl rfl rfl rels0;refine Rn.v rfl rfl rfl rfl (V.mv rfl) (Rn.appH D2 1 rfl Y rfl rfl rfl U40 el39 rfl rfl rfl rfl (D2.src 0 rfl) ?_);intro A3 c3 w3 D3;refine Rn.v rfl rfl rfl rfl (V.as rfl) (Rn.regEnd ?_);refine Rn.retG1 func137 rfl (rvT rfl) ?_;exact ⟨A3,c3,rfl,D3.pick [1] rfl (by decide)⟩
set_option maxRecDepth 20000 in
theorem bld_copy (b:Nat) (p:Option Addr) (v:Value) (w:World) (hp:p=none∨p=some ⟨b,0,none⟩) (hB:Blk w b 169 [.pointer p,v]) :
 Calls prog 136 #[.pointer (some ⟨b,0,none⟩)] w λx w'=>x=.returned (.tuple #[])∧Blk w' b 169 [.pointer (some ⟨b,0,none⟩),v]∧Fr (λx=>x=b) w w':=by
 have hsz:(prog.info? 169).map (·.size)=some 2:=by kernel_rfl
 obtain ⟨j,hj,hjs0⟩:=Option.map_eq_some_iff.1 hsz
 have hjs:j.size≠0:=by rw [hjs0];decide
 refine Rn.enter func136 rfl rfl (nbl rfl) ?_;refine Rn.seq (Rn.reg (Rn.v rfl rfl rfl rfl (V.mv rfl) (Rn.v rfl rfl rfl rfl (V.nil rfl) (Rn.v rfl rfl rfl rfl (V.fa U169 rfl O167 rfl rfl) (Rn.v rfl rfl rfl rfl (V.ldB V167 rfl hB rfl) (Rn.v rfl rfl rfl rfl (V.eqlP U167 rfl rfl) (Rn.regEnd ?_)))))))
 rcases hp with rfl|rfl
 refine Rn.condT rfl (Rn.reg (Rn.v rfl rfl rfl rfl (V.mv rfl) (Rn.v rfl rfl rfl rfl (V.mv rfl) (Rn.v rfl rfl rfl rfl (V.toUns U167 U229 hj hjs rfl hB (by simp)) (Rn.v rfl rfl rfl rfl (V.noEsc func158 (by kernel_rfl) (by kernel_rfl) (by kernel_rfl) (by kernel_rfl) rfl) (Rn.v rfl rfl rfl rfl (V.fromUns U229 U167 hj rfl hB (by kernel_rfl)) (Rn.v rfl rfl rfl rfl (V.nil rfl) (Rn.v rfl rfl rfl rfl (V.fa U169 rfl O167 rfl rfl) (Rn.st rfl rfl O167 rfl rfl rfl rfl (by first|exact ones rfl|(simp [Value.oneCell'];done)) hB (by first|exact nbl rfl|(simp;done)) ?_)))))))));intro w1 m1 x1;have e1:Fr (λx=>x=b) w w1:=((Fr.refl _ _)).trans' x1 (λx hx=>by first | exact .inl hx | exact .inr (by subst hx;omega));refine Rn.regEnd ?_;refine Rn.end0 func136 rfl ?_;exact ⟨rfl,m1,x1⟩;refine Rn.condF rfl (Rn.seq (Rn.reg (Rn.v rfl rfl rfl rfl (V.mv rfl) (Rn.v rfl rfl rfl rfl (V.nil rfl) (Rn.v rfl rfl rfl rfl (V.fa U169 rfl O167 rfl rfl) (Rn.v rfl rfl rfl rfl (V.ldB V167 rfl hB rfl) (Rn.v rfl rfl rfl rfl (V.mv rfl) (Rn.v rfl rfl rfl rfl (V.neqSame U167 hj rfl rfl) (Rn.regEnd (Rn.condF rfl (Rn.skip ?_)))))))))));refine Rn.end0 func136 rfl ?_;exact ⟨rfl,hB,Fr.refl _ _⟩
set_option maxRecDepth 20000 in
theorem bld_ws {Z0:Nat→Prop} (w:World) (b:Nat) (A:Option Addr) (c:Nat) (l s:List UInt8) {z:List UInt8} (hL:Lent Z0 w [bldR 169 5 b A c l]) (hz:appL l s=some z) :
 Calls prog 103 #[.pointer (some ⟨b,0,none⟩),Str s] w λx w'=>∃ A' c',x=.returned (.tuple #[.int .i64 s.length,.nilIface])∧Hp Z0 (LS [bldR 169 5 b A c l]) w w' [bldR 169 5 b A' c' z]:=by
 obtain ⟨hle,rfl⟩:=appE hz;have D0:=hL.start;obtain ⟨p,hp,hB,hO,hne,hnil⟩:=D0.get 0 rfl;refine Rn.enter func103 rfl rfl (nbl rfl) ?_;refine Rn.seq (Rn.reg (Rn.v rfl rfl rfl rfl (V.as rfl) (Rn.v rfl rfl rfl rfl (V.as rfl) (Rn.regEnd (Rn.seq (Rn.reg (Rn.v rfl rfl rfl rfl (V.mv rfl) (Rn.cl (cK func136) rfl rfl rfl rfl (bld_copy b p _ _ hp hB) ?_))))))));rintro _ w1 ⟨rfl,mB1,x1⟩;have e1:Fr (λx=>x=b∨ob A x) w w1:=((Fr.refl _ _)).trans' x1 (λx hx=>by first | exact .inl (.inl hx) | exact .inl (.inr hx));refine ⟨_,rfl,?_⟩;refine Rn.regEnd (Rn.seq (Rn.reg (Rn.v rfl rfl rfl rfl (V.mv rfl) (Rn.v rfl rfl rfl rfl (V.mv rfl) (Rn.v rfl rfl rfl rfl (V.nil rfl) (Rn.v rfl rfl rfl rfl (V.fa U169 rfl O124 rfl rfl) (Rn.v rfl rfl rfl rfl (V.ldB V124 rfl mB1 rfl) (Rn.v rfl rfl rfl rfl (V.mv rfl) ?_))))))));have hO2:=hO.fr x1 (λ_ h=>h.elim) (λx hx hh=>hne (hh▸hx));refine Rn.appS rfl rfl rfl U124 U9 el5 rfl rfl hO2 hle ?_;intro A2 c2 w2 o2 x2 q2 n2;have e2:Fr (λx=>x=b∨ob A x) w w2:=(e1).trans' x2 (λx hx=>by first | exact .inl (.inl hx) | exact .inl (.inr hx));refine Rn.v rfl rfl rfl rfl (V.nil rfl) (Rn.v rfl rfl rfl rfl (V.fa U169 rfl O124 rfl rfl) (Rn.st rfl rfl O124 rfl rfl rfl rfl (by first|exact ones rfl|(simp [Value.oneCell'];done)) (mB1.fr x2 hne) (by first|exact nbl rfl|(simp;done)) ?_));intro w3 m3 x3;have e3:Fr (λx=>x=b∨ob A x) w w3:=(e2).trans' x3 (λx hx=>by first | exact .inl (.inl hx) | exact .inl (.inr hx));refine Rn.regEnd (Rn.seq (Rn.reg (Rn.v rfl rfl rfl rfl (V.mv rfl) (Rn.v rfl rfl rfl rfl (V.lenS U9 rfl) (Rn.v rfl rfl rfl rfl (V.as rfl) (Rn.v rfl rfl rfl rfl (V.as rfl) (Rn.regEnd ?_)))))));refine Rn.ret2 func103 rfl rfl rfl ?_;have hsz:=x1.size;have hlt:=mB1.lt
 have hnb:¬ob A2 b:=λhh=>by rcases q2 b hh with h | h;exact hne h;omega
 exact ⟨A2,c2,rfl,D0.upd 0 (bldR 169 5 b A2 c2 (l++s)) rfl (((x1.mono λy hy=>.inl hy).trans (x2.mono λy hy=>.inr hy)).trans (x3.mono λy hy=>.inl hy)) (λx hx=>by rcases hx with hx|hx;exact .inl (.inl hx);rcases q2 x hx with h|h;exact .inl (.inr h);exact .inr (by omega)) (λ_ _ _=>⟨_,.inr rfl,m3,o2.fr x3 (λ_ h=>h.elim) (λx hx hh=>hnb (hh▸hx)),hnb,λh=>n2 h (hnil (List.append_eq_nil_iff.1 h).1)⟩)⟩
set_option maxRecDepth 20000 in
theorem bld_str {Z0:Nat→Prop} (w:World) (b:Nat) (A:Option Addr) (c:Nat) (l:List UInt8) (hL:Lent Z0 w [bldR 169 5 b A c l]) :
 Calls prog 104 #[.pointer (some ⟨b,0,none⟩)] w λx w'=>x=.returned (Str l)∧Hp Z0 (LS [bldR 169 5 b A c l]) w w' []:=by
 have D0:=hL.start.ext (Ext.drew w);obtain ⟨p,hp,hB,hO,hne,hnil⟩:=D0.get 0 rfl;refine Rn.enter func104 rfl rfl (nbl rfl) ?_;refine Rn.seq (Rn.reg (Rn.v rfl rfl rfl rfl (V.as rfl) (Rn.regEnd (Rn.seq ?_))));refine Rn.draw (λw'=>Blk w' b 169 [.pointer p,.slice A l.length c]) rfl hB ?_;refine RH.take 0 (by kernel_rfl) rfl rfl rfl rfl (λw' hDr=>V.mv rfl) ?_;refine RH.take 1 (by kernel_rfl) rfl rfl rfl rfl (λw' hDr=>V.nil rfl) ?_;refine RH.take 2 (by kernel_rfl) rfl rfl rfl rfl (λw' hDr=>V.fa U169 rfl O124 rfl rfl) ?_;refine RH.take 3 (by kernel_rfl) rfl rfl rfl rfl (λw' hDr=>V.ldB V124 rfl hDr rfl) ?_;refine RH.take 4 (by kernel_rfl) rfl rfl rfl rfl (λw' hDr=>uData rfl hO hnil w') ?_;refine RH.take 5 (by kernel_rfl) rfl rfl rfl rfl (λw' hDr=>V.mv rfl) ?_;refine RH.take 6 (by kernel_rfl) rfl rfl rfl rfl (λw' hDr=>V.nil rfl) ?_;refine RH.take 7 (by kernel_rfl) rfl rfl rfl rfl (λw' hDr=>V.fa U169 rfl O124 rfl rfl) ?_;refine RH.take 8 (by kernel_rfl) rfl rfl rfl rfl (λw' hDr=>V.ldB V124 rfl hDr rfl) ?_;refine RH.take 9 (by kernel_rfl) rfl rfl rfl rfl (λw' hDr=>V.lenV U124 rfl) ?_;obtain ⟨w2,hr,hF⟩:=uStr_run (P:=prog) (ty:=9) (pt:=199) (it:=3) U199 (by kernel_rfl:prog.cellsOf 5=1) hO hnil;refine RH.one 10 (by kernel_rfl) rfl rfl rfl rfl (V.uStr hr rfl rfl) (hB.fr hF hne) ?_;refine RH.take 11 (by kernel_rfl) rfl rfl rfl rfl (λw' hDr=>V.as rfl) ?_;refine RH.doneP (by kernel_rfl) ?_;refine Rn.retG1 func104 rfl (rvT rfl) ?_;exact ⟨rfl,D0.end1 (hF.mono λy hy=>.inr hy)⟩
theorem eq47 (a b:T_api_Bucket) (w:World):(Op.equalIn 10000 47 (.agg [iv a.Side,iv a.Index].toArray) (.agg [iv b.Side,iv b.Index].toArray)).run prog w=.ok (decide (a=b)) w:=by
 refine eqF_top (p:=a=b) (by kernel_rfl) U47 Tryz.stoodInHeld47 (eqF_cons rfl V3 rfl rfl (eqI w a.Side b.Side U3) (eqF_cons rfl V3 rfl rfl (eqI w a.Index b.Index U3) eqF_nil)) ?_
 cases a;cases b;simp only [T_api_Bucket.mk.injEq,and_true]
theorem eq113 (a b:T_api_Pair) (w:World):(Op.equalIn 10000 113 (.agg [Str (a.Key),Str (a.Val)].toArray) (.agg [Str (b.Key),Str (b.Val)].toArray)).run prog w=.ok (decide (a=b)) w:=by
 refine eqF_top (p:=a=b) (by kernel_rfl) U113 Tryz.stoodInHeld113 (eqF_cons rfl V9 rfl rfl (eqS w a.Key b.Key U9) (eqF_cons rfl V9 rfl rfl (eqS w a.Val b.Val U9) eqF_nil)) ?_
 cases a;cases b;simp only [T_api_Pair.mk.injEq,and_true]
theorem eq159 (a b:T_glob_fault) (w:World):(Op.equalIn 10000 159 (.agg [iv a.at_,iv a.e].toArray) (.agg [iv b.at_,iv b.e].toArray)).run prog w=.ok (decide (a=b)) w:=by
 refine eqF_top (p:=a=b) (by kernel_rfl) U159 Tryz.stoodInHeld159 (eqF_cons rfl V3 rfl rfl (eqI w a.at_ b.at_ U3) (eqF_cons rfl V30 rfl rfl (eqI w a.e b.e U30) eqF_nil)) ?_
 cases a;cases b;simp only [T_glob_fault.mk.injEq,and_true]
theorem kk113:KeyOk prog 113 kv113:=⟨λb a w=>by kernel_rfl,λkey l w=>findKey_ask (kd:=_) U113 (λ_ _=>rfl) (λa b w=>eq113 a b w) key l w,λa w=>by
 have h:Instr.sameBits 10000 (kv113 a) (kv113 a)=true:=by simp [kv113,Instr.sameBits,Str,bytes_same]
 simp only [Instr.keyThatStays,h,if_true,Sem.run_pure]⟩
theorem m_hist_sides_sim {x0:T_api_Hist} {r:T_arr2_api_Side} (Y:m_hist_sides x0=some r) (h0:T_api_Hist.rep.rel Z0 w cs0 x0) :
 Calls prog 48 #[.agg cs0.toArray] w λx w'=>∃ A_0_0 c_0_0 A_0_1 c_0_1,x=.returned (.agg [iv r.a0.Offset,.slice A_0_0 (r.a0.Counts).length c_0_0,iv r.a1.Offset,.slice A_0_1 (r.a1.Counts).length c_0_1].toArray)∧Hp Z0 No w w' [slR A_0_0 c_0_0 w64R r.a0.Counts,slR A_0_1 c_0_1 w64R r.a1.Counts]:=by
 have D0:=Hp.nil Z0 No w;have hc0:=Calm.nil;obtain ⟨Ar1,cr1,Ar3,cr3,rfl,fs1,fs3⟩:=T_api_Hist.relE h0;obtain ⟨D5,hc0⟩:=D0.kn (r:=slR Ar1 cr1 w64R x0.Pos.Counts) hc0 fs1;obtain ⟨D6,hc0⟩:=D5.kn (r:=slR Ar3 cr3 w64R x0.Neg.Counts) hc0 fs3;refine eg func48 2 ?_;refine Rn.box rfl rfl rfl rfl rfl ?_;intro b7 w7 hb7 m7 e7;have D9:=(D6.addBox hb7 e7 m7).nf [_,_,boxR _ _ [_,_,_,_,_,_]] rfl
 refine Rn.al D9 Tryz.zeroValue102 λb10 w10 D12=>?_
 replace D12:=D12.nf [_,_,_,boxR _ _ [_,_,_,_]] rfl;refine gg 4 rfl (Rn.q rfl (V.ldBA [_,_] V42 O42 rfl (D12.get 2 rfl) rfl rfl) (gg 1 rfl (Rn.q rfl (V.ldBA [_,_] V42 O42 rfl (D12.get 2 rfl) rfl rfl) (Rn.q rfl (V.bldA (cs:=[_,_,_,_]) _ ar102 (offs_range 2 2) rfl rfl) (Rn.sq rfl O102 rfl rfl (D12.get 3 rfl) ?_)))));intro w13 m13 x13;have D14:=(D12.st 3 rfl x13 m13).nf [_,_,_,boxR _ _ [_,_,_,_]] rfl;refine gg 1 rfl ?_;refine Rn.retG1 func48 rfl (rvC rfl V102 O102 (D14.get 3 rfl) rfl) ?_;obtain rfl:=someE Y;exact ⟨Ar1,cr1,Ar3,cr3,rfl,D14.pk [0,1]⟩
theorem m_hist_Total_sim {x0:T_api_Hist} {r:(UInt64×Bool)} (Y:m_hist_Total x0=some r) (h0:T_api_Hist.rep.rel Z0 w cs0 x0) :
 Calls prog 41 #[.agg cs0.toArray] w λx w'=>x=.returned (.tuple #[u64v r.1,.bool (r.2)])∧Hp Z0 No w w' []:=by
 have D0:=Hp.nil Z0 No w;have hc0:=Calm.nil;obtain ⟨Ar1,cr1,Ar3,cr3,rfl,fs1,fs3⟩:=T_api_Hist.relE h0;obtain ⟨D5,hc0⟩:=D0.kn (r:=slR Ar1 cr1 w64R x0.Pos.Counts) hc0 fs1;obtain ⟨D6,hc0⟩:=D5.kn (r:=slR Ar3 cr3 w64R x0.Neg.Counts) hc0 fs3;refine eg func41 2 ?_;refine Rn.box rfl rfl rfl rfl rfl ?_;intro b7 w7 hb7 m7 e7;have D9:=(D6.addBox hb7 e7 m7).nf [_,_,boxR _ _ [_,_,_,_,_,_]] rfl;refine gg 6 rfl (Rn.q rfl (V.ldB V39 rfl (D9.get 2 rfl) rfl) (gg 6 rfl (Rn.q rfl (V.ldBA [_,_,_,_,_,_] V44 O44 rfl (D9.get 2 rfl) rfl rfl) ?_)));obtain ⟨p10,e10,Y⟩:=bindE Y;refine Rn.cq (cK func48) (m_hist_sides_sim (Z0:=D9.Z) e10 (show T_api_Hist.rep.rel _ _ _ _ from ⟨_,_,rfl,⟨rfl,trivial⟩,⟨_,_,rfl,⟨rfl,trivial⟩,⟨_,_,rfl,⟨_,_,rfl,⟨rfl,trivial⟩,⟨_,_,rfl,(D9.get 0 rfl).1,(D9.get 0 rfl).2.1,(D9.get 0 rfl).2.2⟩⟩,⟨_,_,rfl,⟨rfl,trivial⟩,⟨_,_,rfl,(D9.get 1 rfl).1,(D9.get 1 rfl).2.1,(D9.get 1 rfl).2.2⟩⟩⟩⟩⟩) :) ?_;rintro _ w10 ⟨A10_0_0,c10_0_0,A10_0_1,c10_0_1,rfl,Q10⟩;refine ⟨_,rfl,?_⟩;have D13:=D9.callZ Q10;refine gg 2 rfl ?_;refine Rn.jG D0 Y (G:=UInt64×UInt64) (λg=>[(4,u64v (g.1)),(5,u64v (g.2))]) (λg=>[slR Ar1 cr1 w64R x0.Pos.Counts,slR Ar3 cr3 w64R x0.Neg.Counts,boxR b7 44 [iv x0.Scale,u64v x0.Zero,iv x0.Pos.Offset,.slice Ar1 (x0.Pos.Counts).length cr1,iv x0.Neg.Offset,.slice Ar3 (x0.Neg.Counts).length cr3]]) (λj g=>j g.1 g.2) ?_ ?_
 ·rintro ⟨y14,y15⟩ w16 D16 Y
  try dsimp only at Y
  refine gg 4 rfl (Rn.q rfl (V.neq rfl rfl) (gg 1 rfl ?_));refine bD Y 5 7 (λh17 Y=>?_) (λh17 Y=>?_)
  ·cases Y
   exact Rn.R2 func41 ⟨rfl,D16.pk []⟩
  cases Y
  exact Rn.R2 func41 ⟨rfl,D16.pk []⟩
 intro j1 Y K1;refine gg 1 rfl ?_;refine Rn.loopF (G:=UInt64×UInt64×Int) (λg=>[(4,u64v (g.1)),(5,u64v (g.2.1)),(14,.agg [iv p10.a0.Offset,.slice A10_0_0 (p10.a0.Counts).length c10_0_0,iv p10.a1.Offset,.slice A10_0_1 (p10.a1.Counts).length c10_0_1].toArray),(15,iv (g.2.2))]) (λg w'=>Hp Z0 No w w' [slR Ar1 cr1 w64R x0.Pos.Counts,slR Ar3 cr3 w64R x0.Neg.Counts,boxR b7 44 [iv x0.Scale,u64v x0.Zero,iv x0.Pos.Offset,.slice Ar1 (x0.Pos.Counts).length cr1,iv x0.Neg.Offset,.slice Ar3 (x0.Neg.Counts).length cr3],slR A10_0_0 c10_0_0 w64R p10.a0.Counts,slR A10_0_1 c10_0_1 w64R p10.a1.Counts]) (λn g=>m_hist_Total_L1 p10 j1 n g.1 g.2.1 g.2.2) fuel (x0.Zero,(0:UInt64),0) sA (D13.pk [0,1,2,3,4]) Y (λ_=>rfl) ?_;clear Y;rintro m21 ⟨y18,y19,y20⟩ w21 D21 Y N21;replace Y:m_hist_Total_L1 p10 j1 (m21+1) y18 y19 y20=some r:=Y;rw [m_hist_Total_L1] at Y;refine gg 5 rfl ?_;refine bD Y 5 1 (λh22 Y=>?_) (λh22 Y=>?_)
 ·obtain ⟨z23,e23,Y⟩:=bindE Y;obtain ⟨A24,c24,D24,Q24⟩:=Hp.idx2 (λx:T_api_Side=>x.Counts) e23 D21 3 4 rfl rfl;refine Rn.q rfl (V.arE (v:=.agg [iv z23.Offset,.slice A24 (z23.Counts).length c24].toArray) ar102 V42 rfl rfl (idx_bd e23 rfl) (by rcases Q24 with ⟨g1,g2,g3,g4⟩|⟨g1,g2,g3,g4⟩<;>first|(simp only [g1,g2,g3,g4];rfl)|(exfalso;omega))) (Rn.als rfl rfl rfl Tryz.zeroValue42 rfl O42 rfl rfl rfl rfl (by first|exact ones rfl|(simp [Value.oneCell'];done)) ?_);intro b26 w26 hb26 m26 e26;have D28:=(D24.addBox hb26 e26 m26).nf [_,_,_,_,_,_,boxR _ _ [_,_]] rfl;refine gg 4 rfl (Rn.q rfl (V.ldB V40 rfl (D28.get 6 rfl) rfl) (Rn.q rfl (V.lenV U40 rfl) (gg 2 rfl ?_)));refine Rn.jG D0 Y (G:=UInt64×UInt64) (λg=>[(4,u64v (g.1)),(5,u64v (g.2)),(14,.agg [iv p10.a0.Offset,.slice A10_0_0 (p10.a0.Counts).length c10_0_0,iv p10.a1.Offset,.slice A10_0_1 (p10.a1.Counts).length c10_0_1].toArray),(15,iv y20)]) (λg=>[slR Ar1 cr1 w64R x0.Pos.Counts,slR Ar3 cr3 w64R x0.Neg.Counts,boxR b7 44 [iv x0.Scale,u64v x0.Zero,iv x0.Pos.Offset,.slice Ar1 (x0.Pos.Counts).length cr1,iv x0.Neg.Offset,.slice Ar3 (x0.Neg.Counts).length cr3],slR A10_0_0 c10_0_0 w64R p10.a0.Counts,slR A10_0_1 c10_0_1 w64R p10.a1.Counts,slR A24 c24 w64R z23.Counts,boxR b26 42 [iv z23.Offset,.slice A24 (z23.Counts).length c24]]) (λj g=>j g.1 g.2) ?_ ?_
  ·rintro ⟨y29,y30⟩ w31 D31 Y
   try dsimp only at Y
   refine gg 5 rfl ?_;exact N21 (y29,y30,(W64 (y20+1))) _ _ sA (D31.pk [0,1,2,3,4]) Y
  intro j2 Y K2;refine gg 1 rfl ?_;refine Rn.loopF (G:=UInt64×UInt64×Int) (λg=>[(4,u64v (g.1)),(5,u64v (g.2.1)),(14,.agg [iv p10.a0.Offset,.slice A10_0_0 (p10.a0.Counts).length c10_0_0,iv p10.a1.Offset,.slice A10_0_1 (p10.a1.Counts).length c10_0_1].toArray),(15,iv y20),(19,.slice A24 (z23.Counts).length c24),(20,iv (z23.Counts.length:Int)),(21,iv (g.2.2))]) (λg w'=>Hp Z0 No w w' [slR Ar1 cr1 w64R x0.Pos.Counts,slR Ar3 cr3 w64R x0.Neg.Counts,boxR b7 44 [iv x0.Scale,u64v x0.Zero,iv x0.Pos.Offset,.slice Ar1 (x0.Pos.Counts).length cr1,iv x0.Neg.Offset,.slice Ar3 (x0.Neg.Counts).length cr3],slR A10_0_0 c10_0_0 w64R p10.a0.Counts,slR A10_0_1 c10_0_1 w64R p10.a1.Counts,slR A24 c24 w64R z23.Counts,boxR b26 42 [iv z23.Offset,.slice A24 (z23.Counts).length c24]]) (λn g=>m_hist_Total_L2 z23 j2 n g.1 g.2.1 g.2.2) fuel (y18,y19,0) sA (D28.pk [0,1,2,3,4,5,6]) Y (λ_=>rfl) ?_;clear Y;rintro m35 ⟨y32,y33,y34⟩ w35 D35 Y N35;replace Y:m_hist_Total_L2 z23 j2 (m35+1) y32 y33 y34=some r:=Y;rw [m_hist_Total_L2] at Y;refine gg 5 rfl ?_;refine bD Y 5 1 (λh36 Y=>?_) (λh36 Y=>?_)
  ·obtain ⟨z37,e37,Y⟩:=bindE Y;refine Rn.ixH D35 5 rfl e37 rfl rfl rfl U40 O39 rfl rfl rfl rfl ?_;rintro b37 o37 vs37 ⟨rfl,_⟩ D37;refine Rn.q rfl (V.ldR0 V39 rfl (D37.get 7 rfl).2 rfl) (gg 10 rfl (Rn.q rfl (V.add64 (a:=y32) (b:=z37) func87 (by kernel_rfl) (by kernel_rfl) (by kernel_rfl) (by kernel_rfl) rfl) (gg 9 rfl (Rn.q rfl (V.o64 rfl rfl y33 (cry y32 z37) rfl rfl (b64_or _ _ _)) (gg 7 rfl ?_)))));exact N35 ((y32+z37),(y33|||(cry y32 z37)),(W64 (y34+1))) _ _ sA (D37.pk [0,1,2,3,4,5,6]) Y
  exact K2 (y32,y33) _ _ sA (D35.pk [0,1,2,3,4,5,6]) Y
 exact K1 (y18,y19) _ _ sA (D21.pk [0,1,2]) Y
theorem m_hist_check_sim {x0:T_api_Side} {r:Int} (Y:m_hist_check x0=some r) (h0:T_api_Side.rep.rel Z0 w cs0 x0) :
 Calls prog 49 #[.agg cs0.toArray] w λx w'=>x=.returned (iv r)∧Hp Z0 No w w' []:=by
 have D0:=Hp.nil Z0 No w;have hc0:=Calm.nil;obtain ⟨Ar1,cr1,rfl,fs1⟩:=T_api_Side.relE h0;obtain ⟨D3,hc0⟩:=D0.kn (r:=slR Ar1 cr1 w64R x0.Counts) hc0 fs1;refine eg func49 2 ?_;refine Rn.box rfl rfl rfl rfl rfl ?_;intro b4 w4 hb4 m4 e4;have D6:=(D3.addBox hb4 e4 m4).nf [_,boxR _ _ [_,_]] rfl;refine gg 5 rfl (Rn.q rfl (V.ldB V40 rfl (D6.get 1 rfl) rfl) (Rn.q rfl (V.lenV U40 rfl) (gg 10 rfl ?_)));refine bD Y 4 5 (λh7 Y=>?_) (λh7 Y=>?_)
 ·cases Y
  exact Rn.R1 func49 ⟨rfl,D6.pk []⟩
 refine Rn.cutR [7] [(1,pt b4 0),(3,iv (x0.Counts.length:Int)),(17,.bool (decide (((x0.Counts.length:Int)=0)∧(x0.Offset≠0))))] (λK8=>?_) ?_
 ·refine Rn.partD (t:=13) rfl (λh9=>?_) (λh9=>?_)
  ·refine gg 1 rfl (Rn.q rfl (V.ldB V3 rfl (D6.get 1 rfl) rfl) (gg 2 rfl ?_));exact K8 _ sA
  refine gg 4 rfl ?_;exact K8 _ sA
 refine gg 2 rfl ?_;refine bD Y 4 6 (λh10 Y=>?_) (λh10 Y=>?_)
 ·cases Y
  exact Rn.R1 func49 ⟨rfl,D6.pk []⟩
 refine bD Y 4 3 (λh11 Y=>?_) (λh11 Y=>?_)
 ·cases Y
  exact Rn.R1 func49 ⟨rfl,D6.pk []⟩
 refine Rn.q rfl (V.ldB V40 rfl (D6.get 1 rfl) rfl) ?_;obtain ⟨z12,e12,Y⟩:=bindE Y;refine Rn.ixH D6 0 rfl e12 rfl rfl rfl U40 O39 rfl rfl rfl rfl ?_;rintro b12 o12 vs12 ⟨rfl,_⟩ D12;refine Rn.q rfl (V.ldR0 V39 rfl (D12.get 2 rfl).2 rfl) (Rn.q rfl (V.eql rfl rfl) (gg 1 rfl ?_));refine Rn.jR D0 Y (G:=Bool) [14] (λg=>[(1,pt b4 0),(3,iv (x0.Counts.length:Int)),(35,.bool (g))]) (λg=>[slR Ar1 cr1 w64R x0.Counts,boxR b4 42 [iv x0.Offset,.slice Ar1 (x0.Counts).length cr1]]) (λj g=>j g) ?_ ?_
 ·rintro y14 w15 D15 Y
  try dsimp only at Y
  refine gg 2 rfl ?_;refine bS Y 4 3 (λh16 Y=>?_) (λh16 Y=>?_)
  ·cases Y
   exact Rn.R1 func49 ⟨rfl,D15.pk []⟩
  refine Rn.q rfl (V.ldB V3 rfl (D15.get 1 rfl) rfl) (gg 2 rfl ?_);refine Rn.jR D0 Y (G:=Bool) [11] (λg=>[(47,.bool (g))]) (λg=>[slR Ar1 cr1 w64R x0.Counts,boxR b4 42 [iv x0.Offset,.slice Ar1 (x0.Counts).length cr1]]) (λj g=>j g) ?_ ?_
  ·rintro y17 w18 D18 Y
   try dsimp only at Y
   refine gg 2 rfl ?_;refine bS Y 4 6 (λh19 Y=>?_) (λh19 Y=>?_)
   ·cases Y
    exact Rn.R1 func49 ⟨rfl,D18.pk []⟩
   cases Y
   exact Rn.R1 func49 ⟨rfl,D18.pk []⟩
  intro j2 Y K2;refine askD Y (Rn.partD (t:=40) rfl) (λh20 Y=>?_) (λh20 Y=>?_)
  ·refine gg 7 rfl ?_;exact K2 true _ _ sA (D15.pk [0,1]) Y
  refine gg 1 rfl (Rn.q rfl (V.ldB V3 rfl (D15.get 1 rfl) rfl) (gg 5 rfl ?_));exact K2 (decide (x0.Offset>W64 (1073741824-(W64 ((x0.Counts.length:Int)-1))))) _ _ sA (D15.pk [0,1]) Y
 intro j1 Y K1;refine askD Y (Rn.partD (t:=27) rfl) (λh21 Y=>?_) (λh21 Y=>?_)
 ·refine gg 8 rfl ?_;exact K1 true _ _ sA (D12.pk [0,1]) Y
 refine gg 1 rfl (Rn.q rfl (V.ldB V40 rfl (D12.get 1 rfl) rfl) (gg 2 rfl ?_));obtain ⟨z22,e22,Y⟩:=bindE Y;refine Rn.ixH D12 0 rfl e22 rfl rfl rfl U40 O39 rfl rfl rfl rfl ?_;rintro b22 o22 vs22 ⟨rfl,_⟩ D22;refine Rn.q rfl (V.ldR0 V39 rfl (D22.get 3 rfl).2 rfl) (Rn.q rfl (V.eql rfl rfl) (gg 1 rfl ?_));exact K1 (decide (((z22).toNat:Int)=0)) _ _ sA (D22.pk [0,1]) Y
theorem m_hist_Check_sim {x0:T_api_Hist} {r:Int} (Y:m_hist_Check x0=some r) (h0:T_api_Hist.rep.rel Z0 w cs0 x0) :
 Calls prog 22 #[.agg cs0.toArray] w λx w'=>x=.returned (iv r)∧Hp Z0 No w w' []:=by
 have D0:=Hp.nil Z0 No w;have hc0:=Calm.nil;obtain ⟨Ar1,cr1,Ar3,cr3,rfl,fs1,fs3⟩:=T_api_Hist.relE h0;obtain ⟨D5,hc0⟩:=D0.kn (r:=slR Ar1 cr1 w64R x0.Pos.Counts) hc0 fs1;obtain ⟨D6,hc0⟩:=D5.kn (r:=slR Ar3 cr3 w64R x0.Neg.Counts) hc0 fs3;refine eg func22 2 ?_;refine Rn.box rfl rfl rfl rfl rfl ?_;intro b7 w7 hb7 m7 e7;have D9:=(D6.addBox hb7 e7 m7).nf [_,_,boxR _ _ [_,_,_,_,_,_]] rfl;refine gg 6 rfl (Rn.q rfl (V.ldB V3 rfl (D9.get 2 rfl) rfl) (gg 2 rfl ?_));refine Rn.cutR [] [(1,pt b7 0),(15,.bool (decide ((x0.Scale<(-10))∨(x0.Scale>20))))] (λK10=>?_) ?_
 ·refine Rn.partD (t:=11) rfl (λh11=>?_) (λh11=>?_)
  ·refine gg 4 rfl ?_;exact K10 _ sA
  refine gg 1 rfl (Rn.q rfl (V.ldB V3 rfl (D9.get 2 rfl) rfl) (gg 2 rfl ?_));exact K10 _ sA
 refine gg 1 rfl ?_;refine bD Y 4 4 (λh12 Y=>?_) (λh12 Y=>?_)
 ·cases Y
  exact Rn.R1 func22 ⟨rfl,D9.pk []⟩
 refine Rn.q rfl (V.ldBA [_,_,_,_,_,_] V44 O44 rfl (D9.get 2 rfl) rfl rfl) ?_;obtain ⟨p13,e13,Y⟩:=bindE Y;refine Rn.cq (cK func48) (m_hist_sides_sim (Z0:=D9.Z) e13 (show T_api_Hist.rep.rel _ _ _ _ from ⟨_,_,rfl,⟨rfl,trivial⟩,⟨_,_,rfl,⟨rfl,trivial⟩,⟨_,_,rfl,⟨_,_,rfl,⟨rfl,trivial⟩,⟨_,_,rfl,(D9.get 0 rfl).1,(D9.get 0 rfl).2.1,(D9.get 0 rfl).2.2⟩⟩,⟨_,_,rfl,⟨rfl,trivial⟩,⟨_,_,rfl,(D9.get 1 rfl).1,(D9.get 1 rfl).2.1,(D9.get 1 rfl).2.2⟩⟩⟩⟩⟩) :) ?_;rintro _ w13 ⟨A13_0_0,c13_0_0,A13_0_1,c13_0_1,rfl,Q13⟩;refine ⟨_,rfl,?_⟩;have D16:=D9.callZ Q13;refine gg 2 rfl ?_;refine Rn.jG D0 Y (G:=Unit) (λg=>[(1,pt b7 0)]) (λg=>[slR Ar1 cr1 w64R x0.Pos.Counts,slR Ar3 cr3 w64R x0.Neg.Counts,boxR b7 44 [iv x0.Scale,u64v x0.Zero,iv x0.Pos.Offset,.slice Ar1 (x0.Pos.Counts).length cr1,iv x0.Neg.Offset,.slice Ar3 (x0.Neg.Counts).length cr3]]) (λj g=>j ()) ?_ ?_
 ·rintro _ w17 D17 Y
  try dsimp only at Y
  refine gg 3 rfl (Rn.q rfl (V.ldBA [_,_,_,_,_,_] V44 O44 rfl (D17.get 2 rfl) rfl rfl) ?_);obtain ⟨p18,e18,Y⟩:=bindE Y
  refine Rn.c0 (cK func41) (m_hist_Total_sim (Z0:=All) e18 (show T_api_Hist.rep.rel All _ _ _ from ⟨_,_,rfl,⟨rfl,trivial⟩,⟨_,_,rfl,⟨rfl,trivial⟩,⟨_,_,rfl,⟨_,_,rfl,⟨rfl,trivial⟩,⟨_,_,rfl,(slR_all (D17.get 0 rfl)).1,(slR_all (D17.get 0 rfl)).2.1,(slR_all (D17.get 0 rfl)).2.2⟩⟩,⟨_,_,rfl,⟨rfl,trivial⟩,⟨_,_,rfl,(slR_all (D17.get 1 rfl)).1,(slR_all (D17.get 1 rfl)).2.1,(slR_all (D17.get 1 rfl)).2.2⟩⟩⟩⟩⟩) :) D17 λw18 _ D19=>?_
  refine gg 9 rfl (Rn.q rfl (V.notB rfl) (gg 1 rfl ?_));refine bS Y 4 5 (λh20 Y=>?_) (λh20 Y=>?_)
  ·cases Y
   exact Rn.R1 func22 ⟨rfl,D19.pk []⟩
  cases Y
  exact Rn.R1 func22 ⟨rfl,D19.pk []⟩
 intro j1 Y K1;refine gg 1 rfl ?_;refine Rn.loopF (G:=Int) (λg=>[(1,pt b7 0),(17,.agg [iv p13.a0.Offset,.slice A13_0_0 (p13.a0.Counts).length c13_0_0,iv p13.a1.Offset,.slice A13_0_1 (p13.a1.Counts).length c13_0_1].toArray),(18,iv g)]) (λg w'=>Hp Z0 No w w' [slR Ar1 cr1 w64R x0.Pos.Counts,slR Ar3 cr3 w64R x0.Neg.Counts,boxR b7 44 [iv x0.Scale,u64v x0.Zero,iv x0.Pos.Offset,.slice Ar1 (x0.Pos.Counts).length cr1,iv x0.Neg.Offset,.slice Ar3 (x0.Neg.Counts).length cr3],slR A13_0_0 c13_0_0 w64R p13.a0.Counts,slR A13_0_1 c13_0_1 w64R p13.a1.Counts]) (λn g=>m_hist_Check_L1 p13 j1 n g) fuel 0 sA (D16.pk [0,1,2,3,4]) Y (λ_=>rfl) ?_;clear Y;rintro m22 y21 w22 D22 Y N22;replace Y:m_hist_Check_L1 p13 j1 (m22+1) y21=some r:=Y;rw [m_hist_Check_L1] at Y;refine gg 5 rfl ?_;refine bD Y 5 1 (λh23 Y=>?_) (λh23 Y=>?_)
 ·obtain ⟨z24,e24,Y⟩:=bindE Y;obtain ⟨A25,c25,D25,Q25⟩:=Hp.idx2 (λx:T_api_Side=>x.Counts) e24 D22 3 4 rfl rfl;refine Rn.q rfl (V.arE (v:=.agg [iv z24.Offset,.slice A25 (z24.Counts).length c25].toArray) ar102 V42 rfl rfl (idx_bd e24 rfl) (by rcases Q25 with ⟨g1,g2,g3,g4⟩|⟨g1,g2,g3,g4⟩<;>first|(simp only [g1,g2,g3,g4];rfl)|(exfalso;omega))) (Rn.als rfl rfl rfl Tryz.zeroValue42 rfl O42 rfl rfl rfl rfl (by first|exact ones rfl|(simp [Value.oneCell'];done)) ?_);intro b27 w27 hb27 m27 e27;have D29:=(D25.addBox hb27 e27 m27).nf [_,_,_,_,_,_,boxR _ _ [_,_]] rfl;refine gg 3 rfl (Rn.q rfl (V.ldBA [_,_] V42 O42 rfl (D29.get 6 rfl) rfl rfl) ?_);obtain ⟨p30,e30,Y⟩:=bindE Y
  refine Rn.c0 (cK func49) (m_hist_check_sim (Z0:=All) e30 (show T_api_Side.rep.rel All _ _ _ from ⟨_,_,rfl,⟨rfl,trivial⟩,⟨_,_,rfl,(slR_all (D29.get 5 rfl)).1,(slR_all (D29.get 5 rfl)).2.1,(slR_all (D29.get 5 rfl)).2.2⟩⟩) :) D29 λw30 _ D31=>?_
  refine gg 7 rfl ?_;refine bD Y 5 6 (λh32 Y=>?_) (λh32 Y=>?_)
  ·cases Y
   exact Rn.R1 func22 ⟨rfl,D31.pk []⟩
  exact N22 (W64 (y21+1)) _ _ sA (D31.pk [0,1,2,3,4]) Y
 exact K1 () _ _ sA (D22.pk [0,1,2]) Y
theorem m_query_Nth_sim {x0:T_api_Hist} {x1:UInt64} {r:(T_api_Bucket×Bool)} (Y:m_query_Nth x0 x1=some r) (h0:T_api_Hist.rep.rel Z0 w cs0 x0) :
 Calls prog 17 #[.agg cs0.toArray,u64v x1] w λx w'=>x=.returned (.tuple #[.agg [iv r.1.Side,iv r.1.Index].toArray,.bool (r.2)])∧Hp Z0 No w w' []:=by
 have D0:=Hp.nil Z0 No w;have hc0:=Calm.nil;obtain ⟨Ar1,cr1,Ar3,cr3,rfl,fs1,fs3⟩:=T_api_Hist.relE h0;obtain ⟨D5,hc0⟩:=D0.kn (r:=slR Ar1 cr1 w64R x0.Pos.Counts) hc0 fs1;obtain ⟨D6,hc0⟩:=D5.kn (r:=slR Ar3 cr3 w64R x0.Neg.Counts) hc0 fs3;refine eg func17 2 ?_;refine Rn.box rfl rfl rfl rfl rfl ?_;intro b7 w7 hb7 m7 e7;have D9:=(D6.addBox hb7 e7 m7).nf [_,_,boxR _ _ [_,_,_,_,_,_]] rfl;refine Rn.box rfl rfl rfl rfl rfl ?_;intro b10 w10 hb10 m10 e10;have D12:=(D9.addBox hb10 e10 m10).nf [_,_,_,boxR _ _ [_]] rfl
 refine Rn.al D12 Tryz.zeroValue47 λb13 w13 D15=>?_
 replace D15:=D15.nf [_,_,_,_,boxR _ _ [_,_]] rfl;refine gg 4 rfl (Rn.q rfl (V.ldBA [_,_,_,_,_,_] V44 O44 rfl (D15.get 2 rfl) rfl rfl) ?_);obtain ⟨p16,e16,Y⟩:=bindE Y
 refine Rn.c0 (cK func41) (m_hist_Total_sim (Z0:=All) e16 (show T_api_Hist.rep.rel All _ _ _ from ⟨_,_,rfl,⟨rfl,trivial⟩,⟨_,_,rfl,⟨rfl,trivial⟩,⟨_,_,rfl,⟨_,_,rfl,⟨rfl,trivial⟩,⟨_,_,rfl,(slR_all (D15.get 0 rfl)).1,(slR_all (D15.get 0 rfl)).2.1,(slR_all (D15.get 0 rfl)).2.2⟩⟩,⟨_,_,rfl,⟨rfl,trivial⟩,⟨_,_,rfl,(slR_all (D15.get 1 rfl)).1,(slR_all (D15.get 1 rfl)).2.1,(slR_all (D15.get 1 rfl)).2.2⟩⟩⟩⟩⟩) :) D15 λw16 _ D17=>?_
 refine gg 9 rfl (Rn.q rfl (V.ldBA [_,_,_,_,_,_] V44 O44 rfl (D17.get 2 rfl) rfl rfl) ?_);obtain ⟨p18,e18,Y⟩:=bindE Y
 refine Rn.c0 (cK func22) (m_hist_Check_sim (Z0:=All) e18 (show T_api_Hist.rep.rel All _ _ _ from ⟨_,_,rfl,⟨rfl,trivial⟩,⟨_,_,rfl,⟨rfl,trivial⟩,⟨_,_,rfl,⟨_,_,rfl,⟨rfl,trivial⟩,⟨_,_,rfl,(slR_all (D17.get 0 rfl)).1,(slR_all (D17.get 0 rfl)).2.1,(slR_all (D17.get 0 rfl)).2.2⟩⟩,⟨_,_,rfl,⟨rfl,trivial⟩,⟨_,_,rfl,(slR_all (D17.get 1 rfl)).1,(slR_all (D17.get 1 rfl)).2.1,(slR_all (D17.get 1 rfl)).2.2⟩⟩⟩⟩⟩) :) D17 λw18 _ D19=>?_
 refine gg 2 rfl ?_;refine Rn.cutR [7,8,9,10,11,12,13,14,15] [(2,pt b7 0),(3,pt b10 0),(4,pt b13 0),(6,u64v p16.1),(20,.bool (decide ((p18≠0)∨((!p16.2)=true))))] (λK20=>?_) ?_
 ·refine Rn.partD (t:=17) rfl (λh21=>?_) (λh21=>?_)
  ·refine gg 3 rfl ?_;exact K20 _ sA
  refine gg 1 rfl (Rn.q rfl (V.notB rfl) (gg 1 rfl ?_));exact K20 _ sA
 refine gg 1 rfl ?_;refine Rn.cutR [11,12,13,14,15] [(2,pt b7 0),(3,pt b10 0),(4,pt b13 0),(6,u64v p16.1),(24,.bool (decide (((p18≠0)∨((!p16.2)=true))∨(((x1).toNat:Int)=0))))] (λK22=>?_) ?_
 ·refine Rn.partD (t:=21) rfl (λh23=>?_) (λh23=>?_)
  ·refine gg 3 rfl ?_;exact K22 _ sA
  refine Rn.q rfl (V.ldB V39 rfl (D19.get 3 rfl) rfl) (Rn.q rfl (V.eql rfl rfl) (gg 1 rfl ?_));exact K22 _ sA
 refine gg 1 rfl ?_;refine Rn.cutR [] [(2,pt b7 0),(3,pt b10 0),(4,pt b13 0),(29,.bool (decide ((((p18≠0)∨((!p16.2)=true))∨(((x1).toNat:Int)=0))∨(((x1).toNat:Int)>((p16.1).toNat:Int)))))] (λK24=>?_) ?_
 ·refine Rn.partD (t:=25) rfl (λh25=>?_) (λh25=>?_)
  ·refine gg 4 rfl ?_;exact K24 _ sA
  refine Rn.q rfl (V.ldB V39 rfl (D19.get 3 rfl) rfl) (gg 1 rfl (Rn.q rfl (V.gtr rfl rfl) (gg 1 rfl ?_)));exact K24 _ sA
 refine gg 1 rfl ?_;refine bD Y 2 3 (λh26 Y=>?_) (λh26 Y=>?_)
 ·refine Rn.q rfl (V.bldS (cs:=[_,_]) st47 rfl rfl) (Rn.sq rfl O47 rfl rfl (D19.get 4 rfl) ?_);intro w27 m27 x27;have D28:=(D19.st 4 rfl x27 m27).nf [_,_,_,_,boxR _ _ [_,_]] rfl;refine gg 2 rfl ?_;refine Rn.retG2 func17 rfl (rvC rfl V47 O47 (D28.get 4 rfl) rfl) (rvT rfl) ?_;obtain rfl:=someE Y;exact ⟨rfl,D28.pk []⟩
 refine Rn.al D19 Tryz.zeroValue47 λb29 w29 D31=>?_
 replace D31:=D31.nf [_,_,_,_,_,boxR _ _ [_,_]] rfl;refine gg 3 rfl (Rn.q rfl (V.ldBA [_,_,_,_,_,_] V44 O44 rfl (D31.get 2 rfl) rfl rfl) (Rn.q rfl (V.mkF rfl) ?_));obtain ⟨j1,hj1,Y⟩:=jnE Y
 have K1:Calls prog 42 #[.agg [iv x0.Scale,u64v x0.Zero,iv x0.Pos.Offset,.slice Ar1 (x0.Pos.Counts).length cr1,iv x0.Neg.Offset,.slice Ar3 (x0.Neg.Counts).length cr3].toArray,.func (.func 43) #[] [pt b10 0,pt b29 0].toArray] w29 (λx w'=>∃ g:T_api_Bucket,x=.returned (.tuple #[])∧(Hp Z0 No w w' [slR Ar1 cr1 w64R x0.Pos.Counts,slR Ar3 cr3 w64R x0.Neg.Counts,boxR b7 44 [iv x0.Scale,u64v x0.Zero,iv x0.Pos.Offset,.slice Ar1 (x0.Pos.Counts).length cr1,iv x0.Neg.Offset,.slice Ar3 (x0.Neg.Counts).length cr3],boxR b13 47 [iv 0,iv 0],boxR b29 47 [iv g.Side,iv g.Index]])∧j1 g=some r):=by
  refine eg func42 2 ?_;refine Rn.box rfl rfl rfl rfl rfl ?_;intro b34 w34 hb34 m34 e34;have D36:=(D31.addBox hb34 e34 m34).nf [_,_,_,_,_,_,boxR _ _ [_,_,_,_,_,_]] rfl;refine gg 6 rfl (Rn.q rfl (V.ldB V40 rfl (D36.get 6 rfl) rfl) (Rn.q rfl (V.lenV U40 rfl) (gg 3 rfl ?_)));refine Rn.jG D0 Y (G:=UInt64×T_api_Bucket) (λg=>[(1,.func (.func 43) #[] [pt b10 0,pt b29 0].toArray),(2,pt b34 0)]) (λg=>[slR Ar1 cr1 w64R x0.Pos.Counts,slR Ar3 cr3 w64R x0.Neg.Counts,boxR b7 44 [iv x0.Scale,u64v x0.Zero,iv x0.Pos.Offset,.slice Ar1 (x0.Pos.Counts).length cr1,iv x0.Neg.Offset,.slice Ar3 (x0.Neg.Counts).length cr3],boxR b13 47 [iv 0,iv 0],boxR b34 44 [iv x0.Scale,u64v x0.Zero,iv x0.Pos.Offset,.slice Ar1 (x0.Pos.Counts).length cr1,iv x0.Neg.Offset,.slice Ar3 (x0.Neg.Counts).length cr3],boxR b10 39 [u64v (g.1)],boxR b29 47 [iv (g.2).Side,iv (g.2).Index]]) (λj g=>j g.1 g.2) ?_ ?_
  ·rintro ⟨y37,y38⟩ w39 D39 Y
   try dsimp only at Y
   refine gg 4 rfl (Rn.q rfl (V.bldS (cs:=[_,_]) st47 rfl rfl) (gg 1 rfl (Rn.q rfl (V.ldB V39 rfl (D39.get 4 rfl) rfl) ?_)));obtain ⟨j3,hj3,Y⟩:=jnE Y
   have K3:Calls prog 43 #[.agg [iv 0,iv 0].toArray,u64v x0.Zero,pt b10 0,pt b29 0] w39 (λx w'=>∃ g:Bool×UInt64×T_api_Bucket,x=.returned (.bool ((g.1)))∧(Hp Z0 No w w' [slR Ar1 cr1 w64R x0.Pos.Counts,slR Ar3 cr3 w64R x0.Neg.Counts,boxR b7 44 [iv x0.Scale,u64v x0.Zero,iv x0.Pos.Offset,.slice Ar1 (x0.Pos.Counts).length cr1,iv x0.Neg.Offset,.slice Ar3 (x0.Neg.Counts).length cr3],boxR b13 47 [iv 0,iv 0],boxR b34 44 [iv x0.Scale,u64v x0.Zero,iv x0.Pos.Offset,.slice Ar1 (x0.Pos.Counts).length cr1,iv x0.Neg.Offset,.slice Ar3 (x0.Neg.Counts).length cr3],boxR b10 39 [u64v (g.2.1)],boxR b29 47 [iv (g.2.2).Side,iv (g.2.2).Index]])∧j3 g.1 g.2.1 g.2.2=some r):=by
    refine eg func43 2 ?_;refine Rn.box rfl rfl rfl rfl rfl ?_;intro b44 w44 hb44 m44 e44;have D46:=(D39.addBox hb44 e44 m44).nf [_,_,_,_,_,_,_,boxR _ _ [_,_]] rfl;refine gg 6 rfl (Rn.q rfl (V.ldB V39 rfl (D46.get 5 rfl) rfl) (Rn.q rfl (V.geq rfl rfl) (gg 1 rfl ?_)));refine bD Y 2 3 (λh47 Y=>?_) (λh47 Y=>?_)
    ·refine Rn.q rfl (V.ldBA [_,_] V47 O47 rfl (D46.get 7 rfl) rfl rfl) (Rn.sq rfl O47 rfl rfl (D46.get 6 rfl) ?_);intro w48 m48 x48;have D49:=(D46.st 6 rfl x48 m48).nf [_,_,_,_,_,_,boxR _ _ [_,_],_] rfl;refine gg 5 rfl ?_;refine Rn.retG1 func43 rfl (rvT rfl) ?_;exact ⟨(false,y37,(⟨0,0⟩:T_api_Bucket)),rfl,D49.pk [0,1,2,3,4,5,6],Y⟩
    refine Rn.q rfl (V.ldB V39 rfl (D46.get 5 rfl) rfl) (gg 1 rfl (Rn.q rfl (V.ari64 (a:=y37) (b:=x0.Zero) rfl rfl _ rfl (toU64_sub _ _)) (Rn.sq rfl O39 rfl rfl (D46.get 5 rfl) ?_)));intro w50 m50 x50;have D51:=(D46.st 5 rfl x50 m50).nf [_,_,_,_,_,boxR _ _ [_],_,_] rfl;refine gg 5 rfl ?_;refine Rn.retG1 func43 rfl (rvT rfl) ?_;exact ⟨(true,(y37-x0.Zero),y38),rfl,D51.pk [0,1,2,3,4,5,6],Y⟩
   refine Rn.clV (cK func43) rfl rfl rfl rfl rfl K3 ?_;clear Y K3;subst hj3;rintro _ w43 ⟨⟨y40,y41,y42⟩,rfl,D43,Y⟩
   try dsimp only at Y D43
   refine ⟨_,rfl,?_⟩;refine Rn.q rfl (V.notB rfl) (gg 1 rfl ?_);refine aS Y (λh52 Y=>?_) (λh52 Y=>?_)
   ·refine Rn.ret0 func42 rfl ?_;exact ⟨y42,rfl,D43.pk [0,1,2,3,6],Y⟩
   refine gg 5 rfl (Rn.q rfl (V.ldB V40 rfl (D43.get 4 rfl) rfl) (Rn.q rfl (V.lenV U40 rfl) (gg 2 rfl ?_)));refine Rn.jG D0 Y (G:=T_api_Bucket) (λg=>[]) (λg=>[slR Ar1 cr1 w64R x0.Pos.Counts,slR Ar3 cr3 w64R x0.Neg.Counts,boxR b7 44 [iv x0.Scale,u64v x0.Zero,iv x0.Pos.Offset,.slice Ar1 (x0.Pos.Counts).length cr1,iv x0.Neg.Offset,.slice Ar3 (x0.Neg.Counts).length cr3],boxR b13 47 [iv 0,iv 0],boxR b34 44 [iv x0.Scale,u64v x0.Zero,iv x0.Pos.Offset,.slice Ar1 (x0.Pos.Counts).length cr1,iv x0.Neg.Offset,.slice Ar3 (x0.Neg.Counts).length cr3],boxR b29 47 [iv g.Side,iv g.Index]]) (λj g=>j g) ?_ ?_
   ·rintro y53 w54 D54 Y
    try dsimp only at Y
    refine Rn.end0 func42 rfl ?_;exact ⟨y53,rfl,D54.pk [0,1,2,3,5],Y⟩
   intro j4 Y K4;refine gg 1 rfl ?_;refine Rn.loopF (G:=Int×UInt64×T_api_Bucket) (λg=>[(1,.func (.func 43) #[] [pt b10 0,pt b29 0].toArray),(2,pt b34 0),(39,.slice Ar1 (x0.Pos.Counts).length cr1),(40,iv (x0.Pos.Counts.length:Int)),(41,iv (g.1))]) (λg w'=>Hp Z0 No w w' [slR Ar1 cr1 w64R x0.Pos.Counts,slR Ar3 cr3 w64R x0.Neg.Counts,boxR b7 44 [iv x0.Scale,u64v x0.Zero,iv x0.Pos.Offset,.slice Ar1 (x0.Pos.Counts).length cr1,iv x0.Neg.Offset,.slice Ar3 (x0.Neg.Counts).length cr3],boxR b13 47 [iv 0,iv 0],boxR b34 44 [iv x0.Scale,u64v x0.Zero,iv x0.Pos.Offset,.slice Ar1 (x0.Pos.Counts).length cr1,iv x0.Neg.Offset,.slice Ar3 (x0.Neg.Counts).length cr3],boxR b10 39 [u64v (g.2.1)],boxR b29 47 [iv (g.2.2).Side,iv (g.2.2).Index]]) (λn g=>m_query_Nth_L1 x0 j1 j4 n g.1 g.2.1 g.2.2) fuel (0,y41,y42) sA (D43.pk [0,1,2,3,4,5,6]) Y (λ_=>rfl) ?_;clear Y;rintro m58 ⟨y55,y56,y57⟩ w58 D58 Y N58;replace Y:m_query_Nth_L1 x0 j1 j4 (m58+1) y55 y56 y57=some r:=Y;rw [m_query_Nth_L1] at Y;refine gg 5 rfl ?_;refine bD Y 6 1 (λh59 Y=>?_) (λh59 Y=>?_)
   ·obtain ⟨z60,e60,Y⟩:=bindE Y;refine Rn.ixH D58 0 rfl e60 rfl rfl rfl U40 O39 rfl rfl rfl rfl ?_;rintro b60 o60 vs60 ⟨rfl,_⟩ D60;refine Rn.q rfl (V.ldR0 V39 rfl (D60.get 7 rfl).2 rfl) (gg 8 rfl (Rn.q rfl (V.ldB V3 rfl (D60.get 4 rfl) rfl) (gg 2 rfl (Rn.q rfl (V.bldS (cs:=[_,_]) st47 rfl rfl) (gg 1 rfl ?_)))));obtain ⟨j5,hj5,Y⟩:=jnE Y
    have K5:Calls prog 43 #[.agg [iv 1,iv (W64 (x0.Pos.Offset+y55))].toArray,u64v z60,pt b10 0,pt b29 0] w58 (λx w'=>∃ g:Bool×UInt64×T_api_Bucket,x=.returned (.bool ((g.1)))∧(Hp Z0 No w w' [slR Ar1 cr1 w64R x0.Pos.Counts,slR Ar3 cr3 w64R x0.Neg.Counts,boxR b7 44 [iv x0.Scale,u64v x0.Zero,iv x0.Pos.Offset,.slice Ar1 (x0.Pos.Counts).length cr1,iv x0.Neg.Offset,.slice Ar3 (x0.Neg.Counts).length cr3],boxR b13 47 [iv 0,iv 0],boxR b34 44 [iv x0.Scale,u64v x0.Zero,iv x0.Pos.Offset,.slice Ar1 (x0.Pos.Counts).length cr1,iv x0.Neg.Offset,.slice Ar3 (x0.Neg.Counts).length cr3],boxR b10 39 [u64v (g.2.1)],boxR b29 47 [iv (g.2.2).Side,iv (g.2.2).Index]])∧j5 g.1 g.2.1 g.2.2=some r):=by
     refine eg func43 2 ?_;refine Rn.box rfl rfl rfl rfl rfl ?_;intro b66 w66 hb66 m66 e66;have D68:=(D60.addBox hb66 e66 m66).nf [_,_,_,_,_,_,_,_,boxR _ _ [_,_]] rfl;refine gg 6 rfl (Rn.q rfl (V.ldB V39 rfl (D68.get 5 rfl) rfl) (Rn.q rfl (V.geq rfl rfl) (gg 1 rfl ?_)));refine bD Y 2 3 (λh69 Y=>?_) (λh69 Y=>?_)
     ·refine Rn.q rfl (V.ldBA [_,_] V47 O47 rfl (D68.get 8 rfl) rfl rfl) (Rn.sq rfl O47 rfl rfl (D68.get 6 rfl) ?_);intro w70 m70 x70;have D71:=(D68.st 6 rfl x70 m70).nf [_,_,_,_,_,_,boxR _ _ [_,_],_,_] rfl;refine gg 5 rfl ?_;refine Rn.retG1 func43 rfl (rvT rfl) ?_;exact ⟨(false,y56,(⟨1,W64 (x0.Pos.Offset+y55)⟩:T_api_Bucket)),rfl,D71.pk [0,1,2,3,4,5,6],Y⟩
     refine Rn.q rfl (V.ldB V39 rfl (D68.get 5 rfl) rfl) (gg 1 rfl (Rn.q rfl (V.ari64 (a:=y56) (b:=z60) rfl rfl _ rfl (toU64_sub _ _)) (Rn.sq rfl O39 rfl rfl (D68.get 5 rfl) ?_)));intro w72 m72 x72;have D73:=(D68.st 5 rfl x72 m72).nf [_,_,_,_,_,boxR _ _ [_],_,_,_] rfl;refine gg 5 rfl ?_;refine Rn.retG1 func43 rfl (rvT rfl) ?_;exact ⟨(true,(y56-z60),y57),rfl,D73.pk [0,1,2,3,4,5,6],Y⟩
    refine Rn.clV (cK func43) rfl rfl rfl rfl rfl K5 ?_;clear Y K5;subst hj5;rintro _ w65 ⟨⟨y62,y63,y64⟩,rfl,D65,Y⟩
    try dsimp only at Y D65
    refine ⟨_,rfl,?_⟩;refine Rn.q rfl (V.notB rfl) (gg 1 rfl ?_);refine aS Y (λh74 Y=>?_) (λh74 Y=>?_)
    ·refine Rn.ret0 func42 rfl ?_;exact ⟨y64,rfl,D65.pk [0,1,2,3,6],Y⟩
    refine gg 6 rfl ?_;exact N58 ((W64 (y55+1)),y63,y64) _ _ sA (D65.pk [0,1,2,3,4,5,6]) Y
   exact K4 y57 _ _ (sb trivial) (D58.pk [0,1,2,3,4,6]) Y
  intro j2 Y K2;refine gg 1 rfl ?_;refine Rn.loopF (G:=Int×UInt64×T_api_Bucket) (λg=>[(1,.func (.func 43) #[] [pt b10 0,pt b29 0].toArray),(2,pt b34 0),(4,iv (g.1))]) (λg w'=>Hp Z0 No w w' [slR Ar1 cr1 w64R x0.Pos.Counts,slR Ar3 cr3 w64R x0.Neg.Counts,boxR b7 44 [iv x0.Scale,u64v x0.Zero,iv x0.Pos.Offset,.slice Ar1 (x0.Pos.Counts).length cr1,iv x0.Neg.Offset,.slice Ar3 (x0.Neg.Counts).length cr3],boxR b13 47 [iv 0,iv 0],boxR b34 44 [iv x0.Scale,u64v x0.Zero,iv x0.Pos.Offset,.slice Ar1 (x0.Pos.Counts).length cr1,iv x0.Neg.Offset,.slice Ar3 (x0.Neg.Counts).length cr3],boxR b10 39 [u64v (g.2.1)],boxR b29 47 [iv (g.2.2).Side,iv (g.2.2).Index]]) (λn g=>m_query_Nth_L2 x0 j1 j2 n g.1 g.2.1 g.2.2) fuel ((W64 ((x0.Neg.Counts.length:Int)-1)),x1,(⟨0,0⟩:T_api_Bucket)) sA (D36.pk [0,1,2,4,6,3,5]) Y (λ_=>rfl) ?_;clear Y;rintro m78 ⟨y75,y76,y77⟩ w78 D78 Y N78;replace Y:m_query_Nth_L2 x0 j1 j2 (m78+1) y75 y76 y77=some r:=Y;rw [m_query_Nth_L2] at Y;refine gg 6 rfl ?_;refine bD Y 4 1 (λh79 Y=>?_) (λh79 Y=>?_)
  ·refine Rn.drawT 13 rfl D78 (by kernel_rfl) ?_;intro w80 D80;refine RT.vv 0 rfl (V.mv rfl) ?_;refine RT.vv 1 rfl (V.fa U44 rfl O42 rfl rfl) ?_;refine RT.vv 2 rfl (V.fa U42 rfl O3 rfl rfl) ?_;refine RT.vv 3 rfl (V.ldB V3 rfl (D80.get 4 rfl) rfl) ?_;refine RT.vv 4 rfl (V.mv rfl) ?_;refine RT.vv 5 rfl (V.addW rfl rfl) ?_;refine RT.vv 6 rfl (V.bldS (cs:=[_,_]) st47 rfl rfl) ?_;refine RT.vv 7 rfl (V.fa U44 rfl O42 rfl rfl) ?_;refine RT.vv 8 rfl (V.fa U42 rfl O40 rfl rfl) ?_;refine RT.vv 9 rfl (V.ldB V40 rfl (D80.get 4 rfl) rfl) ?_;refine RT.vv 10 rfl (V.mv rfl) ?_;obtain ⟨z81,e81,Y⟩:=bindE Y;obtain ⟨kk81,ke81,kz81,kl81⟩:=idxE e81;obtain ⟨b81,o81,vs81,hA81,hD81,hR81,hrel81⟩:=Hp.at D80 1 rfl kz81;obtain ⟨rfl,_⟩:=hrel81;have D83:=Hp.knowL [rdR b81 (o81+kk81*1) [u64v z81]] _ D80 (knC (λ_ h=>h) ⟨λ_=>hD81,hR81⟩ kn0);refine RT.vv 11 rfl (V.ixA' hA81 kk81 U40 O39 rfl rfl ke81 kl81) ?_;refine RT.vv 12 rfl (V.ldR0 V39 rfl (D83.get 7 rfl).2 rfl) ?_;refine RT.tail ?_;obtain ⟨j6,hj6,Y⟩:=jnE Y
   have K6:Calls prog 43 #[.agg [iv (-1),iv (W64 (x0.Neg.Offset+y75))].toArray,u64v z81,pt b10 0,pt b29 0] w80 (λx w'=>∃ g:Bool×UInt64×T_api_Bucket,x=.returned (.bool ((g.1)))∧(Hp Z0 No w w' [slR Ar1 cr1 w64R x0.Pos.Counts,slR Ar3 cr3 w64R x0.Neg.Counts,boxR b7 44 [iv x0.Scale,u64v x0.Zero,iv x0.Pos.Offset,.slice Ar1 (x0.Pos.Counts).length cr1,iv x0.Neg.Offset,.slice Ar3 (x0.Neg.Counts).length cr3],boxR b13 47 [iv 0,iv 0],boxR b34 44 [iv x0.Scale,u64v x0.Zero,iv x0.Pos.Offset,.slice Ar1 (x0.Pos.Counts).length cr1,iv x0.Neg.Offset,.slice Ar3 (x0.Neg.Counts).length cr3],boxR b10 39 [u64v (g.2.1)],boxR b29 47 [iv (g.2.2).Side,iv (g.2.2).Index]])∧j6 g.1 g.2.1 g.2.2=some r):=by
    refine eg func43 2 ?_;refine Rn.box rfl rfl rfl rfl rfl ?_;intro b88 w88 hb88 m88 e88;have D90:=(D83.addBox hb88 e88 m88).nf [_,_,_,_,_,_,_,_,boxR _ _ [_,_]] rfl;refine gg 6 rfl (Rn.q rfl (V.ldB V39 rfl (D90.get 5 rfl) rfl) (Rn.q rfl (V.geq rfl rfl) (gg 1 rfl ?_)));refine bD Y 2 3 (λh91 Y=>?_) (λh91 Y=>?_)
    ·refine Rn.q rfl (V.ldBA [_,_] V47 O47 rfl (D90.get 8 rfl) rfl rfl) (Rn.sq rfl O47 rfl rfl (D90.get 6 rfl) ?_);intro w92 m92 x92;have D93:=(D90.st 6 rfl x92 m92).nf [_,_,_,_,_,_,boxR _ _ [_,_],_,_] rfl;refine gg 5 rfl ?_;refine Rn.retG1 func43 rfl (rvT rfl) ?_;exact ⟨(false,y76,(⟨(-1),W64 (x0.Neg.Offset+y75)⟩:T_api_Bucket)),rfl,D93.pk [0,1,2,3,4,5,6],Y⟩
    refine Rn.q rfl (V.ldB V39 rfl (D90.get 5 rfl) rfl) (gg 1 rfl (Rn.q rfl (V.ari64 (a:=y76) (b:=z81) rfl rfl _ rfl (toU64_sub _ _)) (Rn.sq rfl O39 rfl rfl (D90.get 5 rfl) ?_)));intro w94 m94 x94;have D95:=(D90.st 5 rfl x94 m94).nf [_,_,_,_,_,boxR _ _ [_],_,_,_] rfl;refine gg 5 rfl ?_;refine Rn.retG1 func43 rfl (rvT rfl) ?_;exact ⟨(true,(y76-z81),y77),rfl,D95.pk [0,1,2,3,4,5,6],Y⟩
   refine RH.clV (cK func43) 13 (by kernel_rfl) rfl rfl rfl rfl rfl K6 ?_;clear Y K6;subst hj6;rintro _ w87 ⟨⟨y84,y85,y86⟩,rfl,D87,Y⟩
   try dsimp only at Y D87
   refine ⟨_,rfl,trivial,?_⟩;refine RH.ho 14 rfl (V.notB rfl) ?_;refine RH.dn ?_;refine aS Y (λh96 Y=>?_) (λh96 Y=>?_)
   ·refine Rn.ret0 func42 rfl ?_;exact ⟨y86,rfl,D87.pk [0,1,2,3,6],Y⟩
   refine gg 7 rfl ?_;exact N78 ((W64 (y75-1)),y85,y86) _ _ sA (D87.pk [0,1,2,3,4,5,6]) Y
  exact K2 (y76,y77) _ _ sA (D78.pk [0,1,2,3,4,5,6]) Y
 refine Rn.cl (cK func42) rfl rfl rfl rfl K1 ?_;clear Y K1;subst hj1;rintro _ w33 ⟨y32,rfl,D33,Y⟩
 try dsimp only at Y D33
 refine ⟨_,rfl,?_⟩;refine gg 3 rfl (Rn.q rfl (V.ldBA [_,_] V47 O47 rfl (D33.get 4 rfl) rfl rfl) (Rn.sq rfl O47 rfl rfl (D33.get 3 rfl) ?_));intro w97 m97 x97;have D98:=(D33.st 3 rfl x97 m97).nf [_,_,_,boxR _ _ [_,_],_] rfl;refine gg 2 rfl ?_;refine Rn.retG2 func17 rfl (rvC rfl V47 O47 (D98.get 3 rfl) rfl) (rvT rfl) ?_;obtain rfl:=someE Y;exact ⟨rfl,D98.pk []⟩
theorem m_math_bits_Mul64_sim {x0:UInt64} {x1:UInt64} {r:(UInt64×UInt64)} (Y:m_math_bits_Mul64 x0 x1=some r)  :
 Calls prog 45 #[u64v x0,u64v x1] w λx w'=>x=.returned (.tuple #[u64v r.1,u64v r.2])∧Hp Z0 No w w' []:=by
 have D0:=Hp.nil Z0 No w;have hc0:=Calm.nil;refine eg func45 8 ?_;refine Rn.q rfl (V.o64 rfl rfl x0 (4294967295:UInt64) rfl rfl (b64_and _ _ _)) (gg 5 rfl (Rn.q rfl (V.sh64 rfl rfl _ 32 rfl rfl (b64_shr _ _ _ 32 (by decide))) (gg 5 rfl (Rn.q rfl (V.o64 rfl rfl x1 (4294967295:UInt64) rfl rfl (b64_and _ _ _)) (gg 5 rfl (Rn.q rfl (V.sh64 rfl rfl _ 32 rfl rfl (b64_shr _ _ _ 32 (by decide))) (gg 6 rfl (Rn.q rfl (V.ari64 (a:=x0&&&(4294967295:UInt64)) (b:=x1&&&(4294967295:UInt64)) rfl rfl _ rfl (toU64_mul _ _)) (gg 6 rfl (Rn.q rfl (V.ari64 (a:=x0>>>UInt64.ofNat 32) (b:=x1&&&(4294967295:UInt64)) rfl rfl _ rfl (toU64_mul _ _)) (gg 1 rfl (Rn.q rfl (V.sh64 rfl rfl _ 32 rfl rfl (b64_shr _ _ _ 32 (by decide))) (Rn.q rfl (V.ari64 (a:=(x0>>>UInt64.ofNat 32)*(x1&&&(4294967295:UInt64))) (b:=((x0&&&(4294967295:UInt64))*(x1&&&(4294967295:UInt64)))>>>UInt64.ofNat 32) rfl rfl _ rfl (toU64_add _ _)) (gg 5 rfl (Rn.q rfl (V.o64 rfl rfl (((x0>>>UInt64.ofNat 32)*(x1&&&(4294967295:UInt64)))+(((x0&&&(4294967295:UInt64))*(x1&&&(4294967295:UInt64)))>>>UInt64.ofNat 32)) (4294967295:UInt64) rfl rfl (b64_and _ _ _)) (gg 5 rfl (Rn.q rfl (V.sh64 rfl rfl _ 32 rfl rfl (b64_shr _ _ _ 32 (by decide))) (gg 7 rfl (Rn.q rfl (V.ari64 (a:=x0&&&(4294967295:UInt64)) (b:=x1>>>UInt64.ofNat 32) rfl rfl _ rfl (toU64_mul _ _)) (Rn.q rfl (V.ari64 (a:=(((x0>>>UInt64.ofNat 32)*(x1&&&(4294967295:UInt64)))+(((x0&&&(4294967295:UInt64))*(x1&&&(4294967295:UInt64)))>>>UInt64.ofNat 32))&&&(4294967295:UInt64)) (b:=(x0&&&(4294967295:UInt64))*(x1>>>UInt64.ofNat 32)) rfl rfl _ rfl (toU64_add _ _)) (gg 6 rfl (Rn.q rfl (V.ari64 (a:=x0>>>UInt64.ofNat 32) (b:=x1>>>UInt64.ofNat 32) rfl rfl _ rfl (toU64_mul _ _)) (gg 1 rfl (Rn.q rfl (V.ari64 (a:=(x0>>>UInt64.ofNat 32)*(x1>>>UInt64.ofNat 32)) (b:=(((x0>>>UInt64.ofNat 32)*(x1&&&(4294967295:UInt64)))+(((x0&&&(4294967295:UInt64))*(x1&&&(4294967295:UInt64)))>>>UInt64.ofNat 32))>>>UInt64.ofNat 32) rfl rfl _ rfl (toU64_add _ _)) (gg 1 rfl (Rn.q rfl (V.sh64 rfl rfl _ 32 rfl rfl (b64_shr _ _ _ 32 (by decide))) (Rn.q rfl (V.ari64 (a:=((x0>>>UInt64.ofNat 32)*(x1>>>UInt64.ofNat 32))+((((x0>>>UInt64.ofNat 32)*(x1&&&(4294967295:UInt64)))+(((x0&&&(4294967295:UInt64))*(x1&&&(4294967295:UInt64)))>>>UInt64.ofNat 32))>>>UInt64.ofNat 32)) (b:=(((((x0>>>UInt64.ofNat 32)*(x1&&&(4294967295:UInt64)))+(((x0&&&(4294967295:UInt64))*(x1&&&(4294967295:UInt64)))>>>UInt64.ofNat 32))&&&(4294967295:UInt64))+((x0&&&(4294967295:UInt64))*(x1>>>UInt64.ofNat 32)))>>>UInt64.ofNat 32) rfl rfl _ rfl (toU64_add _ _)) (gg 6 rfl (Rn.q rfl (V.ari64 (a:=x0) (b:=x1) rfl rfl _ rfl (toU64_mul _ _)) (gg 2 rfl ?_))))))))))))))))))))))))))))))
 cases Y
 exact Rn.R2 func45 ⟨rfl,D0.pk []⟩
theorem m_math_bits_Len64_sim {x0:UInt64} {r:Int} (Y:m_math_bits_Len64 x0=some r)  :
 Calls prog 122 #[u64v x0] w λx w'=>x=.returned (iv r)∧Hp Z0 No w w' []:=by
 have D0:=Hp.nil Z0 No w;have hc0:=Calm.nil;refine eg func122 8 ?_;refine Rn.q rfl (V.geq rfl rfl) (gg 1 rfl ?_);refine Rn.jG D0 Y (G:=UInt64×Int) (λg=>[(0,u64v (g.1)),(2,iv (g.2))]) (λg=>[]) (λj g=>j g.1 g.2) ?_ ?_
 ·rintro ⟨y1,y2⟩ w3 D3 Y
  try dsimp only at Y
  refine gg 4 rfl (Rn.q rfl (V.geq rfl rfl) (gg 1 rfl ?_));refine Rn.jG D0 Y (G:=UInt64×Int) (λg=>[(0,u64v (g.1)),(2,iv (g.2))]) (λg=>[]) (λj g=>j g.1 g.2) ?_ ?_
  ·rintro ⟨y4,y5⟩ w6 D6 Y
   try dsimp only at Y
   refine gg 4 rfl (Rn.q rfl (V.geq rfl rfl) (gg 1 rfl ?_));refine Rn.jG D0 Y (G:=UInt64×Int) (λg=>[(0,u64v (g.1)),(2,iv (g.2))]) (λg=>[]) (λj g=>j g.1 g.2) ?_ ?_
   ·rintro ⟨y7,y8⟩ w9 D9 Y
    try dsimp only at Y
    refine gg 4 rfl (Rn.q rfl (V.cv8 U39 U5 rfl) ?_);obtain ⟨z10,e10,Y⟩:=bindE Y;refine Rn.q rfl (V.idxSZ U9 rfl rfl e10) (Rn.q rfl (V.cv8i (a:=z10) U5 U3 rfl) (gg 3 rfl ?_))
    cases Y
    exact Rn.R1 func122 ⟨rfl,D9.pk []⟩
   intro j3 Y K3;refine bD Y 3 1 (λh11 Y=>?_) (λh11 Y=>?_)
   ·refine Rn.q rfl (V.sh64 rfl rfl _ 8 rfl rfl (b64_shr _ _ _ 8 (by decide))) (gg 7 rfl ?_);exact K3 ((y4>>>UInt64.ofNat 8),(W64 (y5+8))) _ _ sA (D6.pk []) Y
   exact K3 (y4,y5) _ _ sA (D6.pk []) Y
  intro j2 Y K2;refine bD Y 3 1 (λh12 Y=>?_) (λh12 Y=>?_)
  ·refine Rn.q rfl (V.sh64 rfl rfl _ 16 rfl rfl (b64_shr _ _ _ 16 (by decide))) (gg 7 rfl ?_);exact K2 ((y1>>>UInt64.ofNat 16),(W64 (y2+16))) _ _ sA (D3.pk []) Y
  exact K2 (y1,y2) _ _ sA (D3.pk []) Y
 intro j1 Y K1;refine bD Y 3 1 (λh13 Y=>?_) (λh13 Y=>?_)
 ·refine Rn.q rfl (V.sh64 rfl rfl _ 32 rfl rfl (b64_shr _ _ _ 32 (by decide))) (gg 5 rfl ?_);exact K1 ((x0>>>UInt64.ofNat 32),32) _ _ sA (D0.pk []) Y
 exact K1 (x0,0) _ _ sA (D0.pk []) Y
theorem m_math_bits_LeadingZeros64_sim {x0:UInt64} {r:Int} (Y:m_math_bits_LeadingZeros64 x0=some r)  :
 Calls prog 89 #[u64v x0] w λx w'=>x=.returned (iv r)∧Hp Z0 No w w' []:=by
 have D0:=Hp.nil Z0 No w;have hc0:=Calm.nil;refine eg func89 7 ?_;obtain ⟨p1,e1,Y⟩:=bindE Y
 refine Rn.c0 (cK func122) (m_math_bits_Len64_sim (Z0:=All) e1  :) D0 λw1 _ D2=>?_
 refine gg 3 rfl ?_
 cases Y
 exact Rn.R1 func89 ⟨rfl,D2.pk []⟩
theorem m_math_bits_Div64_sim {x0:UInt64} {x1:UInt64} {x2:UInt64} {r:(UInt64×UInt64)} (Y:m_math_bits_Div64 x0 x1 x2=some r)  :
 Calls prog 46 #[u64v x0,u64v x1,u64v x2] w λx w'=>x=.returned (.tuple #[u64v r.1,u64v r.2])∧Hp Z0 No w w' []:=by
 have D0:=Hp.nil Z0 No w;have hc0:=Calm.nil;refine eg func46 9 ?_;refine Rn.q rfl (V.eql rfl rfl) (gg 1 rfl ?_);refine Rn.jG D0 Y (G:=Unit) (λg=>[(0,u64v x0),(1,u64v x1),(2,u64v x2)]) (λg=>[]) (λj g=>j ()) ?_ ?_
 ·rintro _ w1 D1 Y
  try dsimp only at Y
  refine gg 5 rfl (Rn.q rfl (V.leq rfl rfl) (gg 1 rfl ?_));refine Rn.jG D0 Y (G:=Unit) (λg=>[(0,u64v x0),(1,u64v x1),(2,u64v x2)]) (λg=>[]) (λj g=>j ()) ?_ ?_
  ·rintro _ w2 D2 Y
   try dsimp only at Y
   refine gg 4 rfl (Rn.q rfl (V.eql rfl rfl) (gg 1 rfl ?_));refine bD Y 1 4 (λh3 Y=>?_) (λh3 Y=>?_)
   ·refine Rn.drawP rfl D2 ?_;intro w4 D4;refine dq [0,1] ?_;obtain ⟨z5,e5,Y⟩:=bindE Y;refine RH.tp 2 rfl (V.quo64 rfl rfl e5) ?_;refine dq [3,4] ?_;obtain ⟨z6,e6,Y⟩:=bindE Y;refine RH.tp 5 rfl (V.rem64 rfl rfl e6) ?_;refine dq [6,7] ?_;refine RH.dn ?_
    cases Y
    exact Rn.R2 func46 ⟨rfl,D4.pk []⟩
   obtain ⟨p7,e7,Y⟩:=bindE Y
   refine Rn.c0 (cK func89) (m_math_bits_LeadingZeros64_sim (Z0:=All) e7  :) D2 λw7 _ D8=>?_
   refine Rn.q rfl (V.cv64 U3 U101 rfl) (gg 6 rfl (Rn.q rfl (V.shl64 (a:=x2) (m:=(toU64 p7).toNat) rfl rfl) (gg 5 rfl (Rn.q rfl (V.sh64 rfl rfl _ 32 rfl rfl (b64_shr _ _ _ 32 (by decide))) (gg 5 rfl (Rn.q rfl (V.o64 rfl rfl (shl64 x2 ((toU64 p7).toNat)) (4294967295:UInt64) rfl rfl (b64_and _ _ _)) (gg 6 rfl (Rn.q rfl (V.shl64 (a:=x0) (m:=(toU64 p7).toNat) rfl rfl) (gg 2 rfl (Rn.q rfl (V.ari64 (a:=(64:UInt64)) (b:=toU64 p7) rfl rfl _ rfl (toU64_sub _ _)) (Rn.q rfl (V.shr64 (a:=x1) (m:=((64:UInt64)-(toU64 p7)).toNat) rfl rfl) (Rn.q rfl (V.o64 rfl rfl (shl64 x0 ((toU64 p7).toNat)) (shr64 x1 (((64:UInt64)-(toU64 p7)).toNat)) rfl rfl (b64_or _ _ _)) (gg 6 rfl (Rn.q rfl (V.shl64 (a:=x1) (m:=(toU64 p7).toNat) rfl rfl) (gg 5 rfl (Rn.q rfl (V.sh64 rfl rfl _ 32 rfl rfl (b64_shr _ _ _ 32 (by decide))) (gg 5 rfl (Rn.q rfl (V.o64 rfl rfl (shl64 x1 ((toU64 p7).toNat)) (4294967295:UInt64) rfl rfl (b64_and _ _ _)) (gg 6 rfl ?_)))))))))))))))))));obtain ⟨z9,e9,Y⟩:=bindE Y;refine Rn.q rfl (V.quo64 rfl rfl e9) (gg 7 rfl (Rn.q rfl (V.ari64 (a:=z9) (b:=(shl64 x2 ((toU64 p7).toNat))>>>UInt64.ofNat 32) rfl rfl _ rfl (toU64_mul _ _)) (Rn.q rfl (V.ari64 (a:=(shl64 x0 ((toU64 p7).toNat))|||(shr64 x1 (((64:UInt64)-(toU64 p7)).toNat))) (b:=z9*((shl64 x2 ((toU64 p7).toNat))>>>UInt64.ofNat 32)) rfl rfl _ rfl (toU64_sub _ _)) (gg 3 rfl ?_))));refine Rn.jG D0 Y (G:=UInt64) (λg=>[(2,u64v (shl64 x2 ((toU64 p7).toNat))),(8,u64v (toU64 p7)),(9,u64v ((shl64 x2 ((toU64 p7).toNat))>>>UInt64.ofNat 32)),(10,u64v ((shl64 x2 ((toU64 p7).toNat))&&&(4294967295:UInt64))),(11,u64v ((shl64 x0 ((toU64 p7).toNat))|||(shr64 x1 (((64:UInt64)-(toU64 p7)).toNat)))),(13,u64v ((shl64 x1 ((toU64 p7).toNat))>>>UInt64.ofNat 32)),(14,u64v ((shl64 x1 ((toU64 p7).toNat))&&&(4294967295:UInt64))),(15,u64v g)]) (λg=>[]) (λj g=>j g) ?_ ?_
   ·rintro y10 w11 D11 Y
    try dsimp only at Y
    refine gg 3 rfl (Rn.q rfl (V.ari64 (a:=(shl64 x0 ((toU64 p7).toNat))|||(shr64 x1 (((64:UInt64)-(toU64 p7)).toNat))) (b:=(4294967296:UInt64)) rfl rfl _ rfl (toU64_mul _ _)) (gg 1 rfl (Rn.q rfl (V.ari64 (a:=((shl64 x0 ((toU64 p7).toNat))|||(shr64 x1 (((64:UInt64)-(toU64 p7)).toNat)))*(4294967296:UInt64)) (b:=(shl64 x1 ((toU64 p7).toNat))>>>UInt64.ofNat 32) rfl rfl _ rfl (toU64_add _ _)) (gg 2 rfl (Rn.q rfl (V.ari64 (a:=y10) (b:=shl64 x2 ((toU64 p7).toNat)) rfl rfl _ rfl (toU64_mul _ _)) (Rn.q rfl (V.ari64 (a:=(((shl64 x0 ((toU64 p7).toNat))|||(shr64 x1 (((64:UInt64)-(toU64 p7)).toNat)))*(4294967296:UInt64))+((shl64 x1 ((toU64 p7).toNat))>>>UInt64.ofNat 32)) (b:=y10*(shl64 x2 ((toU64 p7).toNat))) rfl rfl _ rfl (toU64_sub _ _)) (gg 6 rfl ?_)))))));obtain ⟨z12,e12,Y⟩:=bindE Y;refine Rn.q rfl (V.quo64 rfl rfl e12) (gg 7 rfl (Rn.q rfl (V.ari64 (a:=z12) (b:=(shl64 x2 ((toU64 p7).toNat))>>>UInt64.ofNat 32) rfl rfl _ rfl (toU64_mul _ _)) (Rn.q rfl (V.ari64 (a:=((((shl64 x0 ((toU64 p7).toNat))|||(shr64 x1 (((64:UInt64)-(toU64 p7)).toNat)))*(4294967296:UInt64))+((shl64 x1 ((toU64 p7).toNat))>>>UInt64.ofNat 32))-(y10*(shl64 x2 ((toU64 p7).toNat)))) (b:=z12*((shl64 x2 ((toU64 p7).toNat))>>>UInt64.ofNat 32)) rfl rfl _ rfl (toU64_sub _ _)) (gg 3 rfl ?_))));refine Rn.jG D0 Y (G:=UInt64) (λg=>[(2,u64v (shl64 x2 ((toU64 p7).toNat))),(8,u64v (toU64 p7)),(14,u64v ((shl64 x1 ((toU64 p7).toNat))&&&(4294967295:UInt64))),(15,u64v y10),(17,u64v (((((shl64 x0 ((toU64 p7).toNat))|||(shr64 x1 (((64:UInt64)-(toU64 p7)).toNat)))*(4294967296:UInt64))+((shl64 x1 ((toU64 p7).toNat))>>>UInt64.ofNat 32))-(y10*(shl64 x2 ((toU64 p7).toNat))))),(18,u64v g)]) (λg=>[]) (λj g=>j g) ?_ ?_
    ·rintro y13 w14 D14 Y
     try dsimp only at Y
     refine gg 3 rfl (Rn.q rfl (V.ari64 (a:=y10) (b:=(4294967296:UInt64)) rfl rfl _ rfl (toU64_mul _ _)) (gg 1 rfl (Rn.q rfl (V.ari64 (a:=y10*(4294967296:UInt64)) (b:=y13) rfl rfl _ rfl (toU64_add _ _)) (gg 1 rfl (Rn.q rfl (V.ari64 (a:=((((shl64 x0 ((toU64 p7).toNat))|||(shr64 x1 (((64:UInt64)-(toU64 p7)).toNat)))*(4294967296:UInt64))+((shl64 x1 ((toU64 p7).toNat))>>>UInt64.ofNat 32))-(y10*(shl64 x2 ((toU64 p7).toNat)))) (b:=(4294967296:UInt64)) rfl rfl _ rfl (toU64_mul _ _)) (gg 1 rfl (Rn.q rfl (V.ari64 (a:=(((((shl64 x0 ((toU64 p7).toNat))|||(shr64 x1 (((64:UInt64)-(toU64 p7)).toNat)))*(4294967296:UInt64))+((shl64 x1 ((toU64 p7).toNat))>>>UInt64.ofNat 32))-(y10*(shl64 x2 ((toU64 p7).toNat))))*(4294967296:UInt64)) (b:=(shl64 x1 ((toU64 p7).toNat))&&&(4294967295:UInt64)) rfl rfl _ rfl (toU64_add _ _)) (gg 2 rfl (Rn.q rfl (V.ari64 (a:=y13) (b:=shl64 x2 ((toU64 p7).toNat)) rfl rfl _ rfl (toU64_mul _ _)) (Rn.q rfl (V.ari64 (a:=((((((shl64 x0 ((toU64 p7).toNat))|||(shr64 x1 (((64:UInt64)-(toU64 p7)).toNat)))*(4294967296:UInt64))+((shl64 x1 ((toU64 p7).toNat))>>>UInt64.ofNat 32))-(y10*(shl64 x2 ((toU64 p7).toNat))))*(4294967296:UInt64))+((shl64 x1 ((toU64 p7).toNat))&&&(4294967295:UInt64))) (b:=y13*(shl64 x2 ((toU64 p7).toNat))) rfl rfl _ rfl (toU64_sub _ _)) (gg 1 rfl (Rn.q rfl (V.shr64 (a:=(((((((shl64 x0 ((toU64 p7).toNat))|||(shr64 x1 (((64:UInt64)-(toU64 p7)).toNat)))*(4294967296:UInt64))+((shl64 x1 ((toU64 p7).toNat))>>>UInt64.ofNat 32))-(y10*(shl64 x2 ((toU64 p7).toNat))))*(4294967296:UInt64))+((shl64 x1 ((toU64 p7).toNat))&&&(4294967295:UInt64)))-(y13*(shl64 x2 ((toU64 p7).toNat)))) (m:=(toU64 p7).toNat) rfl rfl) (gg 3 rfl ?_)))))))))))))
     cases Y
     exact Rn.R2 func46 ⟨rfl,D14.pk []⟩
    intro j4 Y K4;refine gg 1 rfl ?_;refine Rn.loopF (G:=UInt64×UInt64) (λg=>[(2,u64v (shl64 x2 ((toU64 p7).toNat))),(8,u64v (toU64 p7)),(9,u64v ((shl64 x2 ((toU64 p7).toNat))>>>UInt64.ofNat 32)),(10,u64v ((shl64 x2 ((toU64 p7).toNat))&&&(4294967295:UInt64))),(14,u64v ((shl64 x1 ((toU64 p7).toNat))&&&(4294967295:UInt64))),(15,u64v y10),(16,u64v (g.1)),(17,u64v (((((shl64 x0 ((toU64 p7).toNat))|||(shr64 x1 (((64:UInt64)-(toU64 p7)).toNat)))*(4294967296:UInt64))+((shl64 x1 ((toU64 p7).toNat))>>>UInt64.ofNat 32))-(y10*(shl64 x2 ((toU64 p7).toNat))))),(18,u64v (g.2))]) (λg w'=>Hp Z0 No w w' []) (λn g=>m_math_bits_Div64_L1 x1 x2 p7 j4 n g.1 g.2) fuel (((((((shl64 x0 ((toU64 p7).toNat))|||(shr64 x1 (((64:UInt64)-(toU64 p7)).toNat)))*(4294967296:UInt64))+((shl64 x1 ((toU64 p7).toNat))>>>UInt64.ofNat 32))-(y10*(shl64 x2 ((toU64 p7).toNat))))-(z12*((shl64 x2 ((toU64 p7).toNat))>>>UInt64.ofNat 32))),z12) sA (D11.pk []) Y (λ_=>rfl) ?_;clear Y;rintro m17 ⟨y15,y16⟩ w17 D17 Y N17;replace Y:m_math_bits_Div64_L1 x1 x2 p7 j4 (m17+1) y15 y16=some r:=Y;rw [m_math_bits_Div64_L1] at Y;refine gg 4 rfl (Rn.q rfl (V.geq rfl rfl) (gg 1 rfl ?_));refine Rn.jR D0 Y (G:=Bool) [] (λg=>[(2,u64v (shl64 x2 ((toU64 p7).toNat))),(8,u64v (toU64 p7)),(9,u64v ((shl64 x2 ((toU64 p7).toNat))>>>UInt64.ofNat 32)),(10,u64v ((shl64 x2 ((toU64 p7).toNat))&&&(4294967295:UInt64))),(14,u64v ((shl64 x1 ((toU64 p7).toNat))&&&(4294967295:UInt64))),(15,u64v y10),(16,u64v y15),(17,u64v (((((shl64 x0 ((toU64 p7).toNat))|||(shr64 x1 (((64:UInt64)-(toU64 p7)).toNat)))*(4294967296:UInt64))+((shl64 x1 ((toU64 p7).toNat))>>>UInt64.ofNat 32))-(y10*(shl64 x2 ((toU64 p7).toNat))))),(18,u64v y16),(113,.bool (g))]) (λg=>[]) (λj g=>j g) ?_ ?_
    ·rintro y18 w19 D19 Y
     try dsimp only at Y
     refine gg 1 rfl ?_;refine bS Y 5 1 (λh20 Y=>?_) (λh20 Y=>?_)
     ·refine Rn.q rfl (V.ari64 (a:=y16) (b:=(1:UInt64)) rfl rfl _ rfl (toU64_sub _ _)) (gg 6 rfl (Rn.q rfl (V.ari64 (a:=y15) (b:=(shl64 x2 ((toU64 p7).toNat))>>>UInt64.ofNat 32) rfl rfl _ rfl (toU64_add _ _)) (gg 5 rfl (Rn.q rfl (V.geq rfl rfl) (gg 1 rfl ?_)))));refine bD Y 1 2 (λh21 Y=>?_) (λh21 Y=>?_)
      ·exact K4 (y16-(1:UInt64)) _ _ sA (D19.pk []) Y
      exact N17 ((y15+((shl64 x2 ((toU64 p7).toNat))>>>UInt64.ofNat 32)),(y16-(1:UInt64))) _ _ sA (D19.pk []) Y
     exact K4 y16 _ _ sA (D19.pk []) Y
    intro j5 Y K5;refine askD Y (Rn.partD (t:=104) rfl) (λh22 Y=>?_) (λh22 Y=>?_)
    ·refine gg 9 rfl ?_;exact K5 true _ _ sA (D17.pk []) Y
    refine gg 2 rfl (Rn.q rfl (V.ari64 (a:=y16) (b:=(shl64 x2 ((toU64 p7).toNat))&&&(4294967295:UInt64)) rfl rfl _ rfl (toU64_mul _ _)) (gg 1 rfl (Rn.q rfl (V.ari64 (a:=(4294967296:UInt64)) (b:=y15) rfl rfl _ rfl (toU64_mul _ _)) (gg 1 rfl (Rn.q rfl (V.ari64 (a:=(4294967296:UInt64)*y15) (b:=(shl64 x1 ((toU64 p7).toNat))&&&(4294967295:UInt64)) rfl rfl _ rfl (toU64_add _ _)) (Rn.q rfl (V.gtr rfl rfl) (gg 1 rfl ?_)))))));exact K5 (decide (((y16*((shl64 x2 ((toU64 p7).toNat))&&&(4294967295:UInt64))).toNat:Int)>((((4294967296:UInt64)*y15)+((shl64 x1 ((toU64 p7).toNat))&&&(4294967295:UInt64))).toNat:Int))) _ _ sA (D17.pk []) Y
   intro j3 Y K3;refine gg 1 rfl ?_;refine Rn.loopF (G:=UInt64×UInt64) (λg=>[(2,u64v (shl64 x2 ((toU64 p7).toNat))),(8,u64v (toU64 p7)),(9,u64v ((shl64 x2 ((toU64 p7).toNat))>>>UInt64.ofNat 32)),(10,u64v ((shl64 x2 ((toU64 p7).toNat))&&&(4294967295:UInt64))),(11,u64v ((shl64 x0 ((toU64 p7).toNat))|||(shr64 x1 (((64:UInt64)-(toU64 p7)).toNat)))),(13,u64v ((shl64 x1 ((toU64 p7).toNat))>>>UInt64.ofNat 32)),(14,u64v ((shl64 x1 ((toU64 p7).toNat))&&&(4294967295:UInt64))),(15,u64v (g.1)),(16,u64v (g.2))]) (λg w'=>Hp Z0 No w w' []) (λn g=>m_math_bits_Div64_L2 x1 x2 p7 j3 n g.1 g.2) fuel (z9,(((shl64 x0 ((toU64 p7).toNat))|||(shr64 x1 (((64:UInt64)-(toU64 p7)).toNat)))-(z9*((shl64 x2 ((toU64 p7).toNat))>>>UInt64.ofNat 32)))) sA (D8.pk []) Y (λ_=>rfl) ?_;clear Y;rintro m25 ⟨y23,y24⟩ w25 D25 Y N25;replace Y:m_math_bits_Div64_L2 x1 x2 p7 j3 (m25+1) y23 y24=some r:=Y;rw [m_math_bits_Div64_L2] at Y;refine gg 4 rfl (Rn.q rfl (V.geq rfl rfl) (gg 1 rfl ?_));refine Rn.jR D0 Y (G:=Bool) [] (λg=>[(2,u64v (shl64 x2 ((toU64 p7).toNat))),(8,u64v (toU64 p7)),(9,u64v ((shl64 x2 ((toU64 p7).toNat))>>>UInt64.ofNat 32)),(10,u64v ((shl64 x2 ((toU64 p7).toNat))&&&(4294967295:UInt64))),(11,u64v ((shl64 x0 ((toU64 p7).toNat))|||(shr64 x1 (((64:UInt64)-(toU64 p7)).toNat)))),(13,u64v ((shl64 x1 ((toU64 p7).toNat))>>>UInt64.ofNat 32)),(14,u64v ((shl64 x1 ((toU64 p7).toNat))&&&(4294967295:UInt64))),(15,u64v y23),(16,u64v y24),(78,.bool (g))]) (λg=>[]) (λj g=>j g) ?_ ?_
   ·rintro y26 w27 D27 Y
    try dsimp only at Y
    refine gg 1 rfl ?_;refine bS Y 5 1 (λh28 Y=>?_) (λh28 Y=>?_)
    ·refine Rn.q rfl (V.ari64 (a:=y23) (b:=(1:UInt64)) rfl rfl _ rfl (toU64_sub _ _)) (gg 6 rfl (Rn.q rfl (V.ari64 (a:=y24) (b:=(shl64 x2 ((toU64 p7).toNat))>>>UInt64.ofNat 32) rfl rfl _ rfl (toU64_add _ _)) (gg 5 rfl (Rn.q rfl (V.geq rfl rfl) (gg 1 rfl ?_)))));refine bD Y 1 2 (λh29 Y=>?_) (λh29 Y=>?_)
     ·exact K3 (y23-(1:UInt64)) _ _ sA (D27.pk []) Y
     exact N25 ((y23-(1:UInt64)),(y24+((shl64 x2 ((toU64 p7).toNat))>>>UInt64.ofNat 32))) _ _ sA (D27.pk []) Y
    exact K3 y23 _ _ sA (D27.pk []) Y
   intro j6 Y K6;refine askD Y (Rn.partD (t:=69) rfl) (λh30 Y=>?_) (λh30 Y=>?_)
   ·refine gg 9 rfl ?_;exact K6 true _ _ sA (D25.pk []) Y
   refine gg 2 rfl (Rn.q rfl (V.ari64 (a:=y23) (b:=(shl64 x2 ((toU64 p7).toNat))&&&(4294967295:UInt64)) rfl rfl _ rfl (toU64_mul _ _)) (gg 1 rfl (Rn.q rfl (V.ari64 (a:=(4294967296:UInt64)) (b:=y24) rfl rfl _ rfl (toU64_mul _ _)) (gg 1 rfl (Rn.q rfl (V.ari64 (a:=(4294967296:UInt64)*y24) (b:=(shl64 x1 ((toU64 p7).toNat))>>>UInt64.ofNat 32) rfl rfl _ rfl (toU64_add _ _)) (Rn.q rfl (V.gtr rfl rfl) (gg 1 rfl ?_)))))));exact K6 (decide (((y23*((shl64 x2 ((toU64 p7).toNat))&&&(4294967295:UInt64))).toNat:Int)>((((4294967296:UInt64)*y24)+((shl64 x1 ((toU64 p7).toNat))>>>UInt64.ofNat 32)).toNat:Int))) _ _ sA (D25.pk []) Y
  intro j2 Y K2;refine aD Y (λh31 Y=>?_) (λh31 Y=>?_)
  ·cases Y
  refine gg 1 rfl ?_;exact K2 () _ _ sA (D1.pk []) Y
 intro j1 Y K1;refine aD Y (λh32 Y=>?_) (λh32 Y=>?_)
 ·cases Y
 refine gg 1 rfl ?_;exact K1 () _ _ sA (D0.pk []) Y
theorem m_query_Share_sim {x0:T_api_Hist} {x1:UInt64} {x2:UInt64} {r:(T_api_Bucket×Bool)} (Y:m_query_Share x0 x1 x2=some r) (h0:T_api_Hist.rep.rel Z0 w cs0 x0) :
 Calls prog 19 #[.agg cs0.toArray,u64v x1,u64v x2] w λx w'=>x=.returned (.tuple #[.agg [iv r.1.Side,iv r.1.Index].toArray,.bool (r.2)])∧Hp Z0 No w w' []:=by
 have D0:=Hp.nil Z0 No w;have hc0:=Calm.nil;obtain ⟨Ar1,cr1,Ar3,cr3,rfl,fs1,fs3⟩:=T_api_Hist.relE h0;obtain ⟨D5,hc0⟩:=D0.kn (r:=slR Ar1 cr1 w64R x0.Pos.Counts) hc0 fs1;obtain ⟨D6,hc0⟩:=D5.kn (r:=slR Ar3 cr3 w64R x0.Neg.Counts) hc0 fs3;refine eg func19 2 ?_;refine Rn.box rfl rfl rfl rfl rfl ?_;intro b7 w7 hb7 m7 e7;have D9:=(D6.addBox hb7 e7 m7).nf [_,_,boxR _ _ [_,_,_,_,_,_]] rfl
 refine Rn.al D9 Tryz.zeroValue47 λb10 w10 D12=>?_
 replace D12:=D12.nf [_,_,_,boxR _ _ [_,_]] rfl;refine gg 4 rfl (Rn.q rfl (V.ldBA [_,_,_,_,_,_] V44 O44 rfl (D12.get 2 rfl) rfl rfl) ?_);obtain ⟨p13,e13,Y⟩:=bindE Y
 refine Rn.c0 (cK func41) (m_hist_Total_sim (Z0:=All) e13 (show T_api_Hist.rep.rel All _ _ _ from ⟨_,_,rfl,⟨rfl,trivial⟩,⟨_,_,rfl,⟨rfl,trivial⟩,⟨_,_,rfl,⟨_,_,rfl,⟨rfl,trivial⟩,⟨_,_,rfl,(slR_all (D12.get 0 rfl)).1,(slR_all (D12.get 0 rfl)).2.1,(slR_all (D12.get 0 rfl)).2.2⟩⟩,⟨_,_,rfl,⟨rfl,trivial⟩,⟨_,_,rfl,(slR_all (D12.get 1 rfl)).1,(slR_all (D12.get 1 rfl)).2.1,(slR_all (D12.get 1 rfl)).2.2⟩⟩⟩⟩⟩) :) D12 λw13 _ D14=>?_
 refine gg 10 rfl (Rn.q rfl (V.eql rfl rfl) (gg 1 rfl ?_));refine Rn.cutR [] [(1,u64v x1),(2,u64v x2),(3,pt b7 0),(6,pt b10 0),(8,u64v p13.1),(25,.bool (decide ((((x2).toNat:Int)=0)∨(((x1).toNat:Int)>((x2).toNat:Int)))))] (λK15=>?_) ?_
 ·refine Rn.partD (t:=21) rfl (λh16=>?_) (λh16=>?_)
  ·refine gg 4 rfl ?_;exact K15 _ sA
  refine gg 2 rfl (Rn.q rfl (V.gtr rfl rfl) (gg 1 rfl ?_));exact K15 _ sA
 refine gg 1 rfl ?_;refine bD Y 2 5 (λh17 Y=>?_) (λh17 Y=>?_)
 ·refine Rn.q rfl (V.bldS (cs:=[_,_]) st47 rfl rfl) (Rn.sq rfl O47 rfl rfl (D14.get 3 rfl) ?_);intro w18 m18 x18;have D19:=(D14.st 3 rfl x18 m18).nf [_,_,_,boxR _ _ [_,_]] rfl;refine gg 2 rfl ?_;refine Rn.retG2 func19 rfl (rvC rfl V47 O47 (D19.get 3 rfl) rfl) (rvT rfl) ?_;obtain rfl:=someE Y;exact ⟨rfl,D19.pk []⟩
 obtain ⟨p20,e20,Y⟩:=bindE Y
 refine Rn.c0 (cK func45) (m_math_bits_Mul64_sim (Z0:=All) e20  :) D14 λw20 _ D21=>?_
 refine gg 16 rfl (Rn.q rfl (V.lss rfl rfl) (gg 1 rfl ?_));refine Rn.jG D0 Y (G:=UInt64) (λg=>[(3,pt b7 0),(6,pt b10 0),(12,u64v g)]) (λg=>[slR Ar1 cr1 w64R x0.Pos.Counts,slR Ar3 cr3 w64R x0.Neg.Counts,boxR b7 44 [iv x0.Scale,u64v x0.Zero,iv x0.Pos.Offset,.slice Ar1 (x0.Pos.Counts).length cr1,iv x0.Neg.Offset,.slice Ar3 (x0.Neg.Counts).length cr3],boxR b10 47 [iv 0,iv 0]]) (λj g=>j g) ?_ ?_
 ·rintro y22 w23 D23 Y
  try dsimp only at Y
  refine gg 2 rfl (Rn.q rfl (V.ldBA [_,_,_,_,_,_] V44 O44 rfl (D23.get 2 rfl) rfl rfl) (gg 1 rfl (Rn.q rfl (V.maxU (a:=y22) (b:=(1:UInt64)) rfl rfl) ?_)));obtain ⟨p24,e24,Y⟩:=bindE Y
  refine Rn.c0 (cK func17) (m_query_Nth_sim (Z0:=All) e24 (show T_api_Hist.rep.rel All _ _ _ from ⟨_,_,rfl,⟨rfl,trivial⟩,⟨_,_,rfl,⟨rfl,trivial⟩,⟨_,_,rfl,⟨_,_,rfl,⟨rfl,trivial⟩,⟨_,_,rfl,(slR_all (D23.get 0 rfl)).1,(slR_all (D23.get 0 rfl)).2.1,(slR_all (D23.get 0 rfl)).2.2⟩⟩,⟨_,_,rfl,⟨rfl,trivial⟩,⟨_,_,rfl,(slR_all (D23.get 1 rfl)).1,(slR_all (D23.get 1 rfl)).2.1,(slR_all (D23.get 1 rfl)).2.2⟩⟩⟩⟩⟩) :) D23 λw24 _ D25=>?_
  refine gg 2 rfl (Rn.sq rfl O47 rfl rfl (D25.get 3 rfl) ?_);intro w26 m26 x26;have D27:=(D25.st 3 rfl x26 m26).nf [_,_,_,boxR _ _ [_,_]] rfl;refine gg 2 rfl ?_;refine Rn.retG2 func19 rfl (rvC rfl V47 O47 (D27.get 3 rfl) rfl) (rvT rfl) ?_;obtain rfl:=someE Y;exact ⟨rfl,D27.pk []⟩
 intro j1 Y K1;refine bD Y 9 1 (λh28 Y=>?_) (λh28 Y=>?_)
 ·obtain ⟨p29,e29,Y⟩:=bindE Y
  refine Rn.c0 (cK func46) (m_math_bits_Div64_sim (Z0:=All) e29  :) D21 λw29 _ D30=>?_
  refine gg 9 rfl (Rn.q rfl (V.gtr rfl rfl) (gg 1 rfl ?_));refine bD Y 2 1 (λh31 Y=>?_) (λh31 Y=>?_)
  ·refine Rn.q rfl (V.ari64 (a:=p29.1) (b:=(1:UInt64)) rfl rfl _ rfl (toU64_add _ _)) (gg 2 rfl ?_);exact K1 (p29.1+(1:UInt64)) _ _ sA (D30.pk [0,1,2,3]) Y
  exact K1 p29.1 _ _ sA (D30.pk [0,1,2,3]) Y
 exact K1 p13.1 _ _ sA (D21.pk [0,1,2,3]) Y
theorem m_label_small_sim {x0:UInt8} {r:Bool} (Y:m_label_small x0=some r)  :
 Calls prog 129 #[u8v x0] w λx w'=>x=.returned (.bool (r))∧Hp Z0 No w w' []:=by
 have D0:=Hp.nil Z0 No w;have hc0:=Calm.nil;refine eg func129 7 ?_;refine Rn.q rfl (V.geq rfl rfl) (gg 1 rfl ?_);refine Rn.cutR [6] [(8,.bool (decide ((((x0).toNat:Int)≥97)∧(((x0).toNat:Int)≤122))))] (λK1=>?_) ?_
 ·refine Rn.partD (t:=5) rfl (λh2=>?_) (λh2=>?_)
  ·refine gg 1 rfl (Rn.q rfl (V.leq rfl rfl) (gg 1 rfl ?_));exact K1 _ sA
  refine gg 3 rfl ?_;exact K1 _ sA
 refine gg 2 rfl ?_
 cases Y
 exact Rn.R1 func129 ⟨rfl,D0.pk []⟩
theorem m_label_isName_sim {x0:(List UInt8)} {r:Bool} (Y:m_label_isName x0=some r)  :
 Calls prog 93 #[Str (x0)] w λx w'=>x=.returned (.bool (r))∧Hp Z0 No w w' []:=by
 have D0:=Hp.nil Z0 No w;have hc0:=Calm.nil;refine eg func93 8 ?_;refine Rn.q rfl (V.eqlS rfl rfl) (gg 1 rfl ?_);refine Rn.cutR [7,8,9,10,11,12] [(0,Str (x0)),(11,.bool (decide ((x0=([]:List UInt8))∨((x0.length:Int)>32))))] (λK1=>?_) ?_
 ·refine Rn.partD (t:=7) rfl (λh2=>?_) (λh2=>?_)
  ·refine gg 4 rfl ?_;exact K1 _ sA
  refine gg 1 rfl (Rn.q rfl (V.lenS U9 rfl) (gg 2 rfl ?_));exact K1 _ sA
 refine gg 1 rfl ?_;refine Rn.jR D0 Y (G:=Bool) [] (λg=>[(0,Str (x0)),(17,.bool (g))]) (λg=>[]) (λj g=>j g) ?_ ?_
 ·rintro y3 w4 D4 Y
  try dsimp only at Y
  refine gg 1 rfl ?_;refine aS Y (λh5 Y=>?_) (λh5 Y=>?_)
  ·cases Y
  refine gg 5 rfl ?_;obtain ⟨z6,e6,Y⟩:=bindE Y;refine Rn.s2bH D4 e6 rfl rfl rfl U9 U124 U5 rfl ?_;intro A6 c6 w6 D6;refine Rn.q rfl (V.lenV U124 rfl) (gg 2 rfl ?_);refine Rn.jG D0 Y (G:=Unit) (λg=>[]) (λg=>[]) (λj g=>j ()) ?_ ?_
  ·rintro _ w8 D8 Y
   try dsimp only at Y
   refine gg 4 rfl ?_
   cases Y
   exact Rn.R1 func93 ⟨rfl,D8.pk []⟩
  intro j2 Y K2;refine gg 1 rfl ?_;refine Rn.loopF (G:=Int) (λg=>[(19,.slice A6 (z6).length c6),(20,iv (z6.length:Int)),(21,iv g)]) (λg w'=>Hp Z0 No w w' [slR A6 c6 byteR z6]) (λn g=>m_label_isName_L1 z6 j2 n g) fuel 0 sA (D6.pk [0]) Y (λ_=>rfl) ?_;clear Y;rintro m10 y9 w10 D10 Y N10;replace Y:m_label_isName_L1 z6 j2 (m10+1) y9=some r:=Y;rw [m_label_isName_L1] at Y;refine gg 5 rfl ?_;refine bD Y 5 1 (λh11 Y=>?_) (λh11 Y=>?_)
  ·obtain ⟨z12,e12,Y⟩:=bindE Y;refine Rn.ixH D10 0 rfl e12 rfl rfl rfl U124 O5 rfl rfl rfl rfl ?_;rintro b12 o12 vs12 ⟨rfl,_⟩ D12;refine Rn.q rfl (V.ldR0 V5 rfl (D12.get 1 rfl).2 rfl) (gg 5 rfl ?_);obtain ⟨p14,e14,Y⟩:=bindE Y
   refine Rn.c0 (cK func129) (m_label_small_sim (Z0:=All) e14  :) D12 λw14 _ D15=>?_
   refine Rn.q rfl (V.notB rfl) (gg 1 rfl ?_);refine Rn.cutR [11,12,13,14,15,16,17,18] [(4,u8v z12),(19,.slice A6 (z6).length c6),(20,iv (z6.length:Int)),(21,iv y9),(35,.bool (decide (((!p14)=true)∧((((z12).toNat:Int)<48)∨(((z12).toNat:Int)>57)))))] (λK16=>?_) ?_
   ·refine Rn.part (t:=28) rfl (λh17=>?_) (λh17=>?_)
    ·refine gg 1 rfl (Rn.q rfl (V.lss rfl rfl) (gg 1 rfl ?_));refine Rn.cutR [10,11,12,13,14,15,16,17,18] [(4,u8v z12),(19,.slice A6 (z6).length c6),(20,iv (z6.length:Int)),(21,iv y9),(28,.bool true),(34,.bool (decide ((((z12).toNat:Int)<48)∨(((z12).toNat:Int)>57))))] (λK18=>?_) ?_
     ·refine Rn.partD (t:=31) rfl (λh19=>?_) (λh19=>?_)
      ·refine gg 3 rfl ?_;exact K18 _ sA
      refine gg 1 rfl (Rn.q rfl (V.gtr rfl rfl) (gg 1 rfl ?_));exact K18 _ sA
     refine gg 1 rfl ?_;exact K16 _ sA
    refine gg 7 rfl ?_;exact K16 _ sA
   refine gg 1 rfl ?_;refine Rn.cutR [15,16,17,18] [(4,u8v z12),(19,.slice A6 (z6).length c6),(20,iv (z6.length:Int)),(21,iv y9),(39,.bool (decide ((((!p14)=true)∧((((z12).toNat:Int)<48)∨(((z12).toNat:Int)>57)))∧(((z12).toNat:Int)≠95))))] (λK20=>?_) ?_
   ·refine Rn.partD (t:=36) rfl (λh21=>?_) (λh21=>?_)
    ·refine gg 1 rfl (Rn.q rfl (V.neq rfl rfl) (gg 1 rfl ?_));exact K20 _ sA
    refine gg 3 rfl ?_;exact K20 _ sA
   refine gg 1 rfl ?_;refine Rn.cutR [] [(19,.slice A6 (z6).length c6),(20,iv (z6.length:Int)),(21,iv y9),(43,.bool (decide (((((!p14)=true)∧((((z12).toNat:Int)<48)∨(((z12).toNat:Int)>57)))∧(((z12).toNat:Int)≠95))∧(((z12).toNat:Int)≠46))))] (λK22=>?_) ?_
   ·refine Rn.partD (t:=40) rfl (λh23=>?_) (λh23=>?_)
    ·refine gg 1 rfl (Rn.q rfl (V.neq rfl rfl) (gg 1 rfl ?_));exact K22 _ sA
    refine gg 3 rfl ?_;exact K22 _ sA
   refine gg 1 rfl ?_;refine aD Y (λh24 Y=>?_) (λh24 Y=>?_)
   ·cases Y
   refine gg 6 rfl ?_;exact N10 (W64 (y9+1)) _ _ sA (D15.pk [0]) Y
  exact K2 () _ _ (sb trivial) (D10.pk []) Y
 intro j1 Y K1;refine askD Y (Rn.partD (t:=12) rfl) (λh25 Y=>?_) (λh25 Y=>?_)
 ·cases Y
 refine gg 1 rfl ?_;obtain ⟨z26,e26,Y⟩:=bindE Y;refine Rn.q rfl (V.idxSZ U9 rfl rfl e26) ?_;obtain ⟨p27,e27,Y⟩:=bindE Y
 refine Rn.c0 (cK func129) (m_label_small_sim (Z0:=All) e27  :) D0 λw27 _ D28=>?_
 refine Rn.q rfl (V.notB rfl) (gg 1 rfl ?_);exact K1 (!p27) _ _ sA (D28.pk []) Y
theorem m_label_Check_sim {x0:(List UInt8)} {x1:(List T_api_Pair)} {r:Int} (Y:m_label_Check x0 x1=some r) (f0:(slR A1 c1 T_api_Pair.rep x1).H Z0 w) :
 Calls prog 55 #[Str (x0),.slice A1 (x1).length c1] w λx w'=>x=.returned (iv r)∧Hp Z0 No w w' []:=by
 obtain ⟨D0,D2,hc0⟩:=knA f0;refine eg func55 8 ?_;obtain ⟨p3,e3,Y⟩:=bindE Y
 refine Rn.c0 (cK func93) (m_label_isName_sim (Z0:=All) e3  :) D2 λw3 _ D4=>?_
 refine Rn.q rfl (V.notB rfl) (gg 1 rfl ?_);refine aS Y (λh5 Y=>?_) (λh5 Y=>?_)
 ·cases Y
 refine gg 5 rfl (Rn.q rfl (V.lenV U63 rfl) (gg 2 rfl ?_));refine aD Y (λh6 Y=>?_) (λh6 Y=>?_)
 ·cases Y
 refine gg 5 rfl (Rn.q rfl (V.lenV U63 rfl) (gg 2 rfl ?_));refine Rn.jG D0 Y (G:=Unit) (λg=>[]) (λg=>[]) (λj g=>j ()) ?_ ?_
 ·rintro _ w7 D7 Y
  try dsimp only at Y
  refine gg 4 rfl ?_
  cases Y
  exact Rn.R1 func55 ⟨rfl,D7.pk []⟩
 intro j1 Y K1;refine gg 1 rfl ?_;refine Rn.loopF (G:=Int) (λg=>[(1,.slice A1 (x1).length c1),(13,.slice A1 (x1).length c1),(14,iv (x1.length:Int)),(15,iv g)]) (λg w'=>Hp Z0 No w w' [slR A1 c1 T_api_Pair.rep x1]) (λn g=>m_label_Check_L1 x1 j1 n g) fuel 0 sA (D4.pk [0]) Y (λ_=>rfl) ?_;clear Y;rintro m9 y8 w9 D9 Y N9;replace Y:m_label_Check_L1 x1 j1 (m9+1) y8=some r:=Y;rw [m_label_Check_L1] at Y;refine gg 5 rfl ?_;refine aD Y (λh10 Y=>?_) (λh10 Y=>?_)
 ·cases Y
 refine gg 1 rfl ?_;exact K1 () _ _ (sb trivial) (D9.pk []) Y
theorem m_point_kinds_sim {x0:T_api_Point} {r:Bool} (Y:m_point_kinds x0=some r) (h0:T_api_Point.rep.rel Z0 w cs0 x0) :
 Calls prog 76 #[.agg cs0.toArray] w λx w'=>x=.returned (.bool (r))∧Hp Z0 No w w' []:=by
 have D0:=Hp.nil Z0 No w;have hc0:=Calm.nil;obtain ⟨Ar1,cr1,Ar3,cr3,Ar5,cr5,rfl,fs1,fs3,fs5⟩:=T_api_Point.relE h0;obtain ⟨D7,hc0⟩:=D0.kn (r:=slR Ar1 cr1 T_api_Pair.rep x0.Attrs) hc0 fs1;obtain ⟨D8,hc0⟩:=D7.kn (r:=slR Ar3 cr3 w64R x0.Hist.Pos.Counts) hc0 fs3;obtain ⟨D9,hc0⟩:=D8.kn (r:=slR Ar5 cr5 w64R x0.Hist.Neg.Counts) hc0 fs5;refine eg func76 2 ?_;refine Rn.box rfl rfl rfl rfl rfl ?_;intro b10 w10 hb10 m10 e10;have D12:=(D9.addBox hb10 e10 m10).nf [_,_,_,boxR _ _ [_,_,_,_,_,_,_,_,_,_,_,_,_,_,_,_,_]] rfl;refine gg 6 rfl (Rn.q rfl (V.ldB V3 rfl (D12.get 3 rfl) rfl) (gg 7 rfl ?_));refine aD Y (λh13 Y=>?_) (λh13 Y=>?_)
 ·cases Y
 refine gg 6 rfl ?_;refine aD Y (λh14 Y=>?_) (λh14 Y=>?_)
 ·refine gg 1 rfl ?_;refine aD Y (λh15 Y=>?_) (λh15 Y=>?_)
  ·refine gg 3 rfl (Rn.q rfl (V.ldB V3 rfl (D12.get 3 rfl) rfl) (gg 2 rfl ?_));refine Rn.cutR [8] [(22,.bool (decide ((x0.Temp=1)∨(x0.Temp=2))))] (λK16=>?_) ?_
   ·refine Rn.partD (t:=18) rfl (λh17=>?_) (λh17=>?_)
    ·refine gg 4 rfl ?_;exact K16 _ sA
    refine gg 1 rfl (Rn.q rfl (V.ldB V3 rfl (D12.get 3 rfl) rfl) (gg 2 rfl ?_));exact K16 _ sA
   refine gg 2 rfl ?_
   cases Y
   exact Rn.R1 func76 ⟨rfl,D12.pk []⟩
  cases Y
 cases Y
theorem m_point_times_sim {x0:T_api_Point} {r:Bool} (Y:m_point_times x0=some r) (h0:T_api_Point.rep.rel Z0 w cs0 x0) :
 Calls prog 78 #[.agg cs0.toArray] w λx w'=>x=.returned (.bool (r))∧Hp Z0 No w w' []:=by
 have D0:=Hp.nil Z0 No w;have hc0:=Calm.nil;obtain ⟨Ar1,cr1,Ar3,cr3,Ar5,cr5,rfl,fs1,fs3,fs5⟩:=T_api_Point.relE h0;obtain ⟨D7,hc0⟩:=D0.kn (r:=slR Ar1 cr1 T_api_Pair.rep x0.Attrs) hc0 fs1;obtain ⟨D8,hc0⟩:=D7.kn (r:=slR Ar3 cr3 w64R x0.Hist.Pos.Counts) hc0 fs3;obtain ⟨D9,hc0⟩:=D8.kn (r:=slR Ar5 cr5 w64R x0.Hist.Neg.Counts) hc0 fs5;refine eg func78 2 ?_;refine Rn.box rfl rfl rfl rfl rfl ?_;intro b10 w10 hb10 m10 e10;have D12:=(D9.addBox hb10 e10 m10).nf [_,_,_,boxR _ _ [_,_,_,_,_,_,_,_,_,_,_,_,_,_,_,_,_]] rfl;refine gg 6 rfl (Rn.q rfl (V.ldB V3 rfl (D12.get 3 rfl) rfl) (gg 2 rfl ?_));refine Rn.cutR [] [(1,pt b10 0),(10,.bool (decide ((x0.Start<0)∨(x0.Time>4503599627370496))))] (λK13=>?_) ?_
 ·refine Rn.partD (t:=6) rfl (λh14=>?_) (λh14=>?_)
  ·refine gg 4 rfl ?_;exact K13 _ sA
  refine gg 1 rfl (Rn.q rfl (V.ldB V3 rfl (D12.get 3 rfl) rfl) (gg 2 rfl ?_));exact K13 _ sA
 refine gg 1 rfl ?_;refine aD Y (λh15 Y=>?_) (λh15 Y=>?_)
 ·cases Y
 refine gg 5 rfl (Rn.q rfl (V.ldB V3 rfl (D12.get 3 rfl) rfl) (gg 2 rfl ?_));refine aD Y (λh16 Y=>?_) (λh16 Y=>?_)
 ·cases Y
 refine gg 4 rfl (Rn.q rfl (V.ldB V3 rfl (D12.get 3 rfl) rfl) (gg 1 rfl (Rn.q rfl (V.ldB V3 rfl (D12.get 3 rfl) rfl) (gg 3 rfl ?_))))
 cases Y
 exact Rn.R1 func78 ⟨rfl,D12.pk []⟩
theorem m_point_bare_sim {x0:T_api_Hist} {r:Bool} (Y:m_point_bare x0=some r) (h0:T_api_Hist.rep.rel Z0 w cs0 x0) :
 Calls prog 117 #[.agg cs0.toArray] w λx w'=>x=.returned (.bool (r))∧Hp Z0 No w w' []:=by
 have D0:=Hp.nil Z0 No w;have hc0:=Calm.nil;obtain ⟨Ar1,cr1,Ar3,cr3,rfl,fs1,fs3⟩:=T_api_Hist.relE h0;obtain ⟨D5,hc0⟩:=D0.kn (r:=slR Ar1 cr1 w64R x0.Pos.Counts) hc0 fs1;obtain ⟨D6,hc0⟩:=D5.kn (r:=slR Ar3 cr3 w64R x0.Neg.Counts) hc0 fs3;refine eg func117 2 ?_;refine Rn.box rfl rfl rfl rfl rfl ?_;intro b7 w7 hb7 m7 e7;have D9:=(D6.addBox hb7 e7 m7).nf [_,_,boxR _ _ [_,_,_,_,_,_]] rfl;refine gg 5 rfl (Rn.q rfl (V.ldB V3 rfl (D9.get 2 rfl) rfl) (gg 2 rfl ?_));refine Rn.cutR [8,9,10,11,12,13,14,15,16,17,18,19,20,21,22,23,24,25,26,27,28,29,30,31,32] [(1,pt b7 0),(10,.bool (decide ((x0.Scale=0)∧(((x0.Zero).toNat:Int)=0))))] (λK10=>?_) ?_
 ·refine Rn.partD (t:=6) rfl (λh11=>?_) (λh11=>?_)
  ·refine gg 1 rfl (Rn.q rfl (V.ldB V39 rfl (D9.get 2 rfl) rfl) (Rn.q rfl (V.eql rfl rfl) (gg 1 rfl ?_)));exact K10 _ sA
  refine gg 4 rfl ?_;exact K10 _ sA
 refine gg 1 rfl ?_;refine Rn.cutR [14,15,16,17,18,19,20,21,22,23,24,25,26,27,28,29,30,31,32] [(1,pt b7 0),(16,.bool (decide (((x0.Scale=0)∧(((x0.Zero).toNat:Int)=0))∧(x0.Pos.Offset=0))))] (λK12=>?_) ?_
 ·refine Rn.partD (t:=11) rfl (λh13=>?_) (λh13=>?_)
  ·refine gg 2 rfl (Rn.q rfl (V.ldB V3 rfl (D9.get 2 rfl) rfl) (gg 2 rfl ?_));exact K12 _ sA
  refine gg 5 rfl ?_;exact K12 _ sA
 refine gg 1 rfl ?_;refine Rn.cutR [20,21,22,23,24,25,26,27,28,29,30,31,32] [(1,pt b7 0),(22,.bool (decide ((((x0.Scale=0)∧(((x0.Zero).toNat:Int)=0))∧(x0.Pos.Offset=0))∧(x0.Neg.Offset=0))))] (λK14=>?_) ?_
 ·refine Rn.partD (t:=17) rfl (λh15=>?_) (λh15=>?_)
  ·refine gg 2 rfl (Rn.q rfl (V.ldB V3 rfl (D9.get 2 rfl) rfl) (gg 2 rfl ?_));exact K14 _ sA
  refine gg 5 rfl ?_;exact K14 _ sA
 refine gg 1 rfl ?_;refine Rn.jR D0 Y (G:=Bool) [32] (λg=>[(34,.bool (g))]) (λg=>[slR Ar1 cr1 w64R x0.Pos.Counts,slR Ar3 cr3 w64R x0.Neg.Counts,boxR b7 44 [iv x0.Scale,u64v x0.Zero,iv x0.Pos.Offset,.slice Ar1 (x0.Pos.Counts).length cr1,iv x0.Neg.Offset,.slice Ar3 (x0.Neg.Counts).length cr3]]) (λj g=>j g) ?_ ?_
 ·rintro y16 w17 D17 Y
  try dsimp only at Y
  refine gg 2 rfl ?_
  cases Y
  exact Rn.R1 func117 ⟨rfl,D17.pk []⟩
 intro j1 Y K1;refine askD Y (Rn.partD (t:=23) rfl) (λh18 Y=>?_) (λh18 Y=>?_)
 ·refine gg 2 rfl (Rn.q rfl (V.ldB V40 rfl (D9.get 2 rfl) rfl) (Rn.q rfl (V.lenV U40 rfl) (gg 2 rfl (Rn.q rfl (V.ldB V40 rfl (D9.get 2 rfl) rfl) (Rn.q rfl (V.lenV U40 rfl) (gg 3 rfl ?_))))));exact K1 (decide (W64 ((x0.Pos.Counts.length:Int)+(x0.Neg.Counts.length:Int))=0)) _ _ sA (D9.pk [0,1,2]) Y
 cases Y
theorem m_point_own_sim {x0:T_api_Point} {r:Bool} (Y:m_point_own x0=some r) (h0:T_api_Point.rep.rel Z0 w cs0 x0) :
 Calls prog 79 #[.agg cs0.toArray] w λx w'=>x=.returned (.bool (r))∧Hp Z0 No w w' []:=by
 have D0:=Hp.nil Z0 No w;have hc0:=Calm.nil;obtain ⟨Ar1,cr1,Ar3,cr3,Ar5,cr5,rfl,fs1,fs3,fs5⟩:=T_api_Point.relE h0;obtain ⟨D7,hc0⟩:=D0.kn (r:=slR Ar1 cr1 T_api_Pair.rep x0.Attrs) hc0 fs1;obtain ⟨D8,hc0⟩:=D7.kn (r:=slR Ar3 cr3 w64R x0.Hist.Pos.Counts) hc0 fs3;obtain ⟨D9,hc0⟩:=D8.kn (r:=slR Ar5 cr5 w64R x0.Hist.Neg.Counts) hc0 fs5;refine eg func79 2 ?_;refine Rn.box rfl rfl rfl rfl rfl ?_;intro b10 w10 hb10 m10 e10;have D12:=(D9.addBox hb10 e10 m10).nf [_,_,_,boxR _ _ [_,_,_,_,_,_,_,_,_,_,_,_,_,_,_,_,_]] rfl;refine gg 5 rfl (Rn.q rfl (V.ldB V3 rfl (D12.get 3 rfl) rfl) (gg 2 rfl ?_));refine Rn.cutR [8,9,10,11,12,13] [(1,pt b10 0),(11,.bool (decide ((x0.Kind=2)∨(x0.Kind=3))))] (λK13=>?_) ?_
 ·refine Rn.partD (t:=7) rfl (λh14=>?_) (λh14=>?_)
  ·refine gg 4 rfl ?_;exact K13 _ sA
  refine gg 1 rfl (Rn.q rfl (V.ldB V3 rfl (D12.get 3 rfl) rfl) (gg 2 rfl ?_));exact K13 _ sA
 refine gg 1 rfl ?_;refine Rn.cutR [13] [(1,pt b10 0),(16,.bool (decide (((x0.Kind=2)∨(x0.Kind=3))∨(x0.Kind=5))))] (λK15=>?_) ?_
 ·refine Rn.partD (t:=12) rfl (λh16=>?_) (λh16=>?_)
  ·refine gg 4 rfl ?_;exact K15 _ sA
  refine gg 1 rfl (Rn.q rfl (V.ldB V3 rfl (D12.get 3 rfl) rfl) (gg 2 rfl ?_));exact K15 _ sA
 refine gg 8 rfl (Rn.q rfl (V.ldB V3 rfl (D12.get 3 rfl) rfl) (gg 2 rfl ?_));refine Rn.cutR [8] [(1,pt b10 0),(3,.bool (decide (((x0.Kind=2)∨(x0.Kind=3))∨(x0.Kind=5)))),(25,.bool (decide ((x0.Kind≠1)∧(x0.Int_≠0))))] (λK17=>?_) ?_
 ·refine Rn.partD (t:=21) rfl (λh18=>?_) (λh18=>?_)
  ·refine gg 1 rfl (Rn.q rfl (V.ldB V3 rfl (D12.get 3 rfl) rfl) (gg 2 rfl ?_));exact K17 _ sA
  refine gg 4 rfl ?_;exact K17 _ sA
 refine gg 2 rfl ?_;refine aD Y (λh19 Y=>?_) (λh19 Y=>?_)
 ·cases Y
 refine gg 3 rfl (Rn.q rfl (V.notD rfl) (gg 1 rfl ?_));refine Rn.cutR [7] [(1,pt b10 0),(32,.bool (decide ((¬(((x0.Kind=2)∨(x0.Kind=3))∨(x0.Kind=5)))∧(((x0.Re).toNat:Int)≠0))))] (λK20=>?_) ?_
 ·refine Rn.partD (t:=28) rfl (λh21=>?_) (λh21=>?_)
  ·refine gg 1 rfl (Rn.q rfl (V.ldB V39 rfl (D12.get 3 rfl) rfl) (Rn.q rfl (V.neq rfl rfl) (gg 1 rfl ?_)));exact K20 _ sA
  refine gg 4 rfl ?_;exact K20 _ sA
 refine gg 2 rfl ?_;refine aD Y (λh22 Y=>?_) (λh22 Y=>?_)
 ·cases Y
 refine gg 3 rfl (Rn.q rfl (V.ldB V3 rfl (D12.get 3 rfl) rfl) (gg 2 rfl ?_));refine Rn.cutR [8] [(1,pt b10 0),(40,.bool (decide ((x0.Kind≠5)∧(((x0.Im).toNat:Int)≠0))))] (λK23=>?_) ?_
 ·refine Rn.partD (t:=36) rfl (λh24=>?_) (λh24=>?_)
  ·refine gg 1 rfl (Rn.q rfl (V.ldB V39 rfl (D12.get 3 rfl) rfl) (Rn.q rfl (V.neq rfl rfl) (gg 1 rfl ?_)));exact K23 _ sA
  refine gg 4 rfl ?_;exact K23 _ sA
 refine gg 2 rfl ?_;refine aD Y (λh25 Y=>?_) (λh25 Y=>?_)
 ·cases Y
 refine gg 3 rfl (Rn.q rfl (V.ldB V3 rfl (D12.get 3 rfl) rfl) (gg 2 rfl ?_));refine Rn.jR D0 Y (G:=Bool) [9] (λg=>[(1,pt b10 0),(49,.bool (g))]) (λg=>[slR Ar1 cr1 T_api_Pair.rep x0.Attrs,slR Ar3 cr3 w64R x0.Hist.Pos.Counts,slR Ar5 cr5 w64R x0.Hist.Neg.Counts,boxR b10 65 [Str (x0.Name),.slice Ar1 (x0.Attrs).length cr1,iv x0.Kind,iv x0.Temp,.bool (x0.Mono),iv x0.Start,iv x0.Time,iv x0.Int_,u64v x0.Re,u64v x0.Im,iv x0.Hist.Scale,u64v x0.Hist.Zero,iv x0.Hist.Pos.Offset,.slice Ar3 (x0.Hist.Pos.Counts).length cr3,iv x0.Hist.Neg.Offset,.slice Ar5 (x0.Hist.Neg.Counts).length cr5,iv x0.Flags]]) (λj g=>j g) ?_ ?_
 ·rintro y26 w27 D27 Y
  try dsimp only at Y
  refine gg 2 rfl ?_;refine aS Y (λh28 Y=>?_) (λh28 Y=>?_)
  ·cases Y
  refine gg 2 rfl (Rn.q rfl (V.ldB V3 rfl (D27.get 3 rfl) rfl) (gg 2 rfl ?_));refine Rn.cutR [8] [(57,.bool (decide ((x0.Flags<0)∨(x0.Flags>31))))] (λK29=>?_) ?_
  ·refine Rn.partD (t:=53) rfl (λh30=>?_) (λh30=>?_)
   ·refine gg 4 rfl ?_;exact K29 _ sA
   refine gg 1 rfl (Rn.q rfl (V.ldB V3 rfl (D27.get 3 rfl) rfl) (gg 2 rfl ?_));exact K29 _ sA
  refine gg 2 rfl ?_;refine aD Y (λh31 Y=>?_) (λh31 Y=>?_)
  ·cases Y
  refine gg 6 rfl ?_
  cases Y
  exact Rn.R1 func79 ⟨rfl,D27.pk []⟩
 intro j1 Y K1;refine askD Y (Rn.partD (t:=44) rfl) (λh32 Y=>?_) (λh32 Y=>?_)
 ·refine gg 1 rfl (Rn.q rfl (V.ldBA [_,_,_,_,_,_] V44 O44 rfl (D12.get 3 rfl) rfl rfl) ?_);obtain ⟨p33,e33,Y⟩:=bindE Y
  refine Rn.c0 (cK func117) (m_point_bare_sim (Z0:=All) e33 (show T_api_Hist.rep.rel All _ _ _ from ⟨_,_,rfl,⟨rfl,trivial⟩,⟨_,_,rfl,⟨rfl,trivial⟩,⟨_,_,rfl,⟨_,_,rfl,⟨rfl,trivial⟩,⟨_,_,rfl,(slR_all (D12.get 1 rfl)).1,(slR_all (D12.get 1 rfl)).2.1,(slR_all (D12.get 1 rfl)).2.2⟩⟩,⟨_,_,rfl,⟨rfl,trivial⟩,⟨_,_,rfl,(slR_all (D12.get 2 rfl)).1,(slR_all (D12.get 2 rfl)).2.1,(slR_all (D12.get 2 rfl)).2.2⟩⟩⟩⟩⟩) :) D12 λw33 _ D34=>?_
  refine Rn.q rfl (V.notB rfl) (gg 1 rfl ?_);exact K1 (!p33) _ _ sA (D34.pk [0,1,2,3]) Y
 cases Y
theorem m_point_Check_sim {x0:T_api_Point} {r:Int} (Y:m_point_Check x0=some r) (h0:T_api_Point.rep.rel Z0 w cs0 x0) :
 Calls prog 37 #[.agg cs0.toArray] w λx w'=>x=.returned (iv r)∧Hp Z0 No w w' []:=by
 have D0:=Hp.nil Z0 No w;have hc0:=Calm.nil;obtain ⟨Ar1,cr1,Ar3,cr3,Ar5,cr5,rfl,fs1,fs3,fs5⟩:=T_api_Point.relE h0;obtain ⟨D7,hc0⟩:=D0.kn (r:=slR Ar1 cr1 T_api_Pair.rep x0.Attrs) hc0 fs1;obtain ⟨D8,hc0⟩:=D7.kn (r:=slR Ar3 cr3 w64R x0.Hist.Pos.Counts) hc0 fs3;obtain ⟨D9,hc0⟩:=D8.kn (r:=slR Ar5 cr5 w64R x0.Hist.Neg.Counts) hc0 fs5;refine eg func37 2 ?_;refine Rn.box rfl rfl rfl rfl rfl ?_;intro b10 w10 hb10 m10 e10;have D12:=(D9.addBox hb10 e10 m10).nf [_,_,_,boxR _ _ [_,_,_,_,_,_,_,_,_,_,_,_,_,_,_,_,_]] rfl;refine gg 6 rfl (Rn.q rfl (V.ldB V9 rfl (D12.get 3 rfl) rfl) (gg 1 rfl (Rn.q rfl (V.ldB V63 rfl (D12.get 3 rfl) rfl) ?_)));obtain ⟨p13,e13,Y⟩:=bindE Y
 refine Rn.c0 (cK func55) (m_label_Check_sim (Z0:=All) e13 (slR_all (D12.get 0 rfl)) :) D12 λw13 _ D14=>?_
 refine gg 7 rfl ?_;refine aD Y (λh15 Y=>?_) (λh15 Y=>?_)
 ·cases Y
 refine gg 5 rfl (Rn.q rfl (V.ldBA [_,_,_,_,_,_,_,_,_,_,_,_,_,_,_,_,_] V65 O65 rfl (D14.get 3 rfl) rfl rfl) ?_);obtain ⟨p16,e16,Y⟩:=bindE Y
 refine Rn.c0 (cK func76) (m_point_kinds_sim (Z0:=All) e16 (show T_api_Point.rep.rel All _ _ _ from ⟨_,_,rfl,⟨rfl,trivial⟩,⟨_,_,rfl,⟨_,_,rfl,(slR_all (D14.get 0 rfl)).1,(slR_all (D14.get 0 rfl)).2.1,(slR_all (D14.get 0 rfl)).2.2⟩,⟨_,_,rfl,⟨rfl,trivial⟩,⟨_,_,rfl,⟨rfl,trivial⟩,⟨_,_,rfl,⟨rfl,trivial⟩,⟨_,_,rfl,⟨rfl,trivial⟩,⟨_,_,rfl,⟨rfl,trivial⟩,⟨_,_,rfl,⟨rfl,trivial⟩,⟨_,_,rfl,⟨rfl,trivial⟩,⟨_,_,rfl,⟨rfl,trivial⟩,⟨_,_,rfl,⟨_,_,rfl,⟨rfl,trivial⟩,⟨_,_,rfl,⟨rfl,trivial⟩,⟨_,_,rfl,⟨_,_,rfl,⟨rfl,trivial⟩,⟨_,_,rfl,(slR_all (D14.get 1 rfl)).1,(slR_all (D14.get 1 rfl)).2.1,(slR_all (D14.get 1 rfl)).2.2⟩⟩,⟨_,_,rfl,⟨rfl,trivial⟩,⟨_,_,rfl,(slR_all (D14.get 2 rfl)).1,(slR_all (D14.get 2 rfl)).2.1,(slR_all (D14.get 2 rfl)).2.2⟩⟩⟩⟩⟩,⟨rfl,trivial⟩⟩⟩⟩⟩⟩⟩⟩⟩⟩⟩⟩) :) D14 λw16 _ D17=>?_
 refine Rn.q rfl (V.notB rfl) (gg 2 rfl ?_);refine aS Y (λh18 Y=>?_) (λh18 Y=>?_)
 ·cases Y
 refine gg 4 rfl (Rn.q rfl (V.ldB V4 rfl (D17.get 3 rfl) rfl) (gg 1 rfl ?_));refine Rn.jR D0 Y (G:=Bool) [7] (λg=>[(1,pt b10 0),(23,.bool (g))]) (λg=>[slR Ar1 cr1 T_api_Pair.rep x0.Attrs,slR Ar3 cr3 w64R x0.Hist.Pos.Counts,slR Ar5 cr5 w64R x0.Hist.Neg.Counts,boxR b10 65 [Str (x0.Name),.slice Ar1 (x0.Attrs).length cr1,iv x0.Kind,iv x0.Temp,.bool (x0.Mono),iv x0.Start,iv x0.Time,iv x0.Int_,u64v x0.Re,u64v x0.Im,iv x0.Hist.Scale,u64v x0.Hist.Zero,iv x0.Hist.Pos.Offset,.slice Ar3 (x0.Hist.Pos.Counts).length cr3,iv x0.Hist.Neg.Offset,.slice Ar5 (x0.Hist.Neg.Counts).length cr5,iv x0.Flags]]) (λj g=>j g) ?_ ?_
 ·rintro y19 w20 D20 Y
  try dsimp only at Y
  refine gg 2 rfl ?_;refine aS Y (λh21 Y=>?_) (λh21 Y=>?_)
  ·cases Y
  refine gg 1 rfl (Rn.q rfl (V.ldBA [_,_,_,_,_,_,_,_,_,_,_,_,_,_,_,_,_] V65 O65 rfl (D20.get 3 rfl) rfl rfl) ?_);obtain ⟨p22,e22,Y⟩:=bindE Y
  refine Rn.c0 (cK func78) (m_point_times_sim (Z0:=All) e22 (show T_api_Point.rep.rel All _ _ _ from ⟨_,_,rfl,⟨rfl,trivial⟩,⟨_,_,rfl,⟨_,_,rfl,(slR_all (D20.get 0 rfl)).1,(slR_all (D20.get 0 rfl)).2.1,(slR_all (D20.get 0 rfl)).2.2⟩,⟨_,_,rfl,⟨rfl,trivial⟩,⟨_,_,rfl,⟨rfl,trivial⟩,⟨_,_,rfl,⟨rfl,trivial⟩,⟨_,_,rfl,⟨rfl,trivial⟩,⟨_,_,rfl,⟨rfl,trivial⟩,⟨_,_,rfl,⟨rfl,trivial⟩,⟨_,_,rfl,⟨rfl,trivial⟩,⟨_,_,rfl,⟨rfl,trivial⟩,⟨_,_,rfl,⟨_,_,rfl,⟨rfl,trivial⟩,⟨_,_,rfl,⟨rfl,trivial⟩,⟨_,_,rfl,⟨_,_,rfl,⟨rfl,trivial⟩,⟨_,_,rfl,(slR_all (D20.get 1 rfl)).1,(slR_all (D20.get 1 rfl)).2.1,(slR_all (D20.get 1 rfl)).2.2⟩⟩,⟨_,_,rfl,⟨rfl,trivial⟩,⟨_,_,rfl,(slR_all (D20.get 2 rfl)).1,(slR_all (D20.get 2 rfl)).2.1,(slR_all (D20.get 2 rfl)).2.2⟩⟩⟩⟩⟩,⟨rfl,trivial⟩⟩⟩⟩⟩⟩⟩⟩⟩⟩⟩⟩) :) D20 λw22 _ D23=>?_
  refine Rn.q rfl (V.notB rfl) (gg 2 rfl ?_);refine aS Y (λh24 Y=>?_) (λh24 Y=>?_)
  ·cases Y
  refine gg 2 rfl (Rn.q rfl (V.ldBA [_,_,_,_,_,_,_,_,_,_,_,_,_,_,_,_,_] V65 O65 rfl (D23.get 3 rfl) rfl rfl) ?_);obtain ⟨p25,e25,Y⟩:=bindE Y
  refine Rn.c0 (cK func79) (m_point_own_sim (Z0:=All) e25 (show T_api_Point.rep.rel All _ _ _ from ⟨_,_,rfl,⟨rfl,trivial⟩,⟨_,_,rfl,⟨_,_,rfl,(slR_all (D23.get 0 rfl)).1,(slR_all (D23.get 0 rfl)).2.1,(slR_all (D23.get 0 rfl)).2.2⟩,⟨_,_,rfl,⟨rfl,trivial⟩,⟨_,_,rfl,⟨rfl,trivial⟩,⟨_,_,rfl,⟨rfl,trivial⟩,⟨_,_,rfl,⟨rfl,trivial⟩,⟨_,_,rfl,⟨rfl,trivial⟩,⟨_,_,rfl,⟨rfl,trivial⟩,⟨_,_,rfl,⟨rfl,trivial⟩,⟨_,_,rfl,⟨rfl,trivial⟩,⟨_,_,rfl,⟨_,_,rfl,⟨rfl,trivial⟩,⟨_,_,rfl,⟨rfl,trivial⟩,⟨_,_,rfl,⟨_,_,rfl,⟨rfl,trivial⟩,⟨_,_,rfl,(slR_all (D23.get 1 rfl)).1,(slR_all (D23.get 1 rfl)).2.1,(slR_all (D23.get 1 rfl)).2.2⟩⟩,⟨_,_,rfl,⟨rfl,trivial⟩,⟨_,_,rfl,(slR_all (D23.get 2 rfl)).1,(slR_all (D23.get 2 rfl)).2.1,(slR_all (D23.get 2 rfl)).2.2⟩⟩⟩⟩⟩,⟨rfl,trivial⟩⟩⟩⟩⟩⟩⟩⟩⟩⟩⟩⟩) :) D23 λw25 _ D26=>?_
  refine Rn.q rfl (V.notB rfl) (gg 2 rfl ?_);refine aS Y (λh27 Y=>?_) (λh27 Y=>?_)
  ·cases Y
  refine gg 3 rfl (Rn.q rfl (V.ldB V4 rfl (D26.get 3 rfl) rfl) (gg 1 rfl ?_));refine Rn.cutR [7,8,9,10,11,12,13] [(1,pt b10 0),(38,.bool (decide ((x0.Mono=true)∧(x0.Kind=2))))] (λK28=>?_) ?_
  ·refine Rn.part (t:=34) rfl (λh29=>?_) (λh29=>?_)
   ·refine gg 1 rfl (Rn.q rfl (V.ldB V3 rfl (D26.get 3 rfl) rfl) (gg 2 rfl ?_));exact K28 _ sA
   refine gg 4 rfl ?_;exact K28 _ sA
  refine gg 1 rfl ?_;refine Rn.jR D0 Y (G:=Bool) [13] (λg=>[(1,pt b10 0),(44,.bool (g))]) (λg=>[slR Ar1 cr1 T_api_Pair.rep x0.Attrs,slR Ar3 cr3 w64R x0.Hist.Pos.Counts,slR Ar5 cr5 w64R x0.Hist.Neg.Counts,boxR b10 65 [Str (x0.Name),.slice Ar1 (x0.Attrs).length cr1,iv x0.Kind,iv x0.Temp,.bool (x0.Mono),iv x0.Start,iv x0.Time,iv x0.Int_,u64v x0.Re,u64v x0.Im,iv x0.Hist.Scale,u64v x0.Hist.Zero,iv x0.Hist.Pos.Offset,.slice Ar3 (x0.Hist.Pos.Counts).length cr3,iv x0.Hist.Neg.Offset,.slice Ar5 (x0.Hist.Neg.Counts).length cr5,iv x0.Flags]]) (λj g=>j g) ?_ ?_
  ·rintro y30 w31 D31 Y
   try dsimp only at Y
   refine gg 2 rfl ?_;refine aS Y (λh32 Y=>?_) (λh32 Y=>?_)
   ·cases Y
   refine gg 3 rfl (Rn.q rfl (V.ldB V4 rfl (D31.get 3 rfl) rfl) (gg 1 rfl ?_));refine Rn.jR D0 Y (G:=Bool) [12] (λg=>[(1,pt b10 0),(57,.bool (g))]) (λg=>[slR Ar1 cr1 T_api_Pair.rep x0.Attrs,slR Ar3 cr3 w64R x0.Hist.Pos.Counts,slR Ar5 cr5 w64R x0.Hist.Neg.Counts,boxR b10 65 [Str (x0.Name),.slice Ar1 (x0.Attrs).length cr1,iv x0.Kind,iv x0.Temp,.bool (x0.Mono),iv x0.Start,iv x0.Time,iv x0.Int_,u64v x0.Re,u64v x0.Im,iv x0.Hist.Scale,u64v x0.Hist.Zero,iv x0.Hist.Pos.Offset,.slice Ar3 (x0.Hist.Pos.Counts).length cr3,iv x0.Hist.Neg.Offset,.slice Ar5 (x0.Hist.Neg.Counts).length cr5,iv x0.Flags]]) (λj g=>j g) ?_ ?_
   ·rintro y33 w34 D34 Y
    try dsimp only at Y
    refine gg 2 rfl ?_;refine aS Y (λh35 Y=>?_) (λh35 Y=>?_)
    ·cases Y
    refine gg 3 rfl (Rn.q rfl (V.ldB V3 rfl (D34.get 3 rfl) rfl) (gg 3 rfl ?_));refine aD Y (λh36 Y=>?_) (λh36 Y=>?_)
    ·cases Y
    refine gg 6 rfl ?_
    cases Y
    exact Rn.R1 func37 ⟨rfl,D34.pk []⟩
   intro j3 Y K3;refine askS Y (Rn.part (t:=48) rfl) (λh37 Y=>?_) (λh37 Y=>?_)
   ·cases Y
   refine gg 9 rfl ?_;exact K3 false _ _ sA (D31.pk [0,1,2,3]) Y
  intro j2 Y K2;refine askD Y (Rn.partD (t:=39) rfl) (λh38 Y=>?_) (λh38 Y=>?_)
  ·cases Y
  refine gg 5 rfl ?_;exact K2 false _ _ sA (D26.pk [0,1,2,3]) Y
 intro j1 Y K1;refine askS Y (Rn.part (t:=19) rfl) (λh39 Y=>?_) (λh39 Y=>?_)
 ·cases Y
 refine gg 4 rfl ?_;exact K1 false _ _ sA (D17.pk [0,1,2,3]) Y
theorem m_slices_Clone_api_Pair_api_Pair_sim {x0:(List T_api_Pair)} {r:(List T_api_Pair)} (Y:m_slices_Clone_api_Pair_api_Pair x0=some r) (f0:(slR A0 c0 T_api_Pair.rep x0).H Z0 w) :
 Calls prog 63 #[.slice A0 (x0).length c0] w λx w'=>∃ A_0_0 c_0_0,x=.returned (.slice A_0_0 (r).length c_0_0)∧Hp Z0 No w w' [ownR 113 A_0_0 c_0_0 T_api_Pair.rep r]:=by
 exact clone_63 w A0 c0 x0 f0 Y
theorem m_slices_insertionSortCmpFunc_api_Pair_s2_sim {x0:(List T_api_Pair)} {x1:Int} {x2:Int} {r:Unit} (Y:m_slices_insertionSortCmpFunc_api_Pair_s2 x0 x1 x2=some r) (f0:(slR A0 c0 T_api_Pair.rep x0).H Z0 w) :
 Calls prog 139 #[.slice A0 (x0).length c0,iv x1,iv x2,.func (.func 65) #[] [].toArray] w λx w'=>x=.returned (.tuple #[])∧Hp Z0 No w w' []:=by
 obtain ⟨D0,D2,hc0⟩:=knA f0;refine eg func139 6 ?_;refine Rn.jG D0 Y (G:=Unit) (λg=>[]) (λg=>[]) (λj g=>j ()) ?_ ?_
 ·rintro _ w3 D3 Y
  try dsimp only at Y
  refine Rn.end0 func139 rfl ?_;obtain rfl:=someE Y;exact ⟨rfl,D3.pk []⟩
 intro j1 Y K1;refine gg 1 rfl ?_;refine Rn.loopF (G:=Int) (λg=>[(0,.slice A0 (x0).length c0),(1,iv x1),(2,iv x2),(3,.func (.func 65) #[] [].toArray),(8,iv g)]) (λg w'=>Hp Z0 No w w' [slR A0 c0 T_api_Pair.rep x0]) (λn g=>m_slices_insertionSortCmpFunc_api_Pair_s2_L1 x2 j1 n g) fuel (W64 (x1+1)) sA (D2.pk [0]) Y (λ_=>rfl) ?_;clear Y;rintro m5 y4 w5 D5 Y N5;replace Y:m_slices_insertionSortCmpFunc_api_Pair_s2_L1 x2 j1 (m5+1) y4=some r:=Y;rw [m_slices_insertionSortCmpFunc_api_Pair_s2_L1] at Y;refine gg 7 rfl ?_;refine aD Y (λh6 Y=>?_) (λh6 Y=>?_)
 ·cases Y
 refine gg 1 rfl ?_;exact K1 () _ _ (sb trivial) (D5.pk []) Y
theorem m_slices_stableCmpFunc_api_Pair_s1_sim {x0:(List T_api_Pair)} {x1:Int} {r:Unit} (Y:m_slices_stableCmpFunc_api_Pair_s1 x0 x1=some r) (f0:(slR A0 c0 T_api_Pair.rep x0).H Z0 w) :
 Calls prog 108 #[.slice A0 (x0).length c0,iv x1,.func (.func 65) #[] [].toArray] w λx w'=>x=.returned (.tuple #[])∧Hp Z0 No w w' []:=by
 obtain ⟨D0,D2,hc0⟩:=knA f0;refine eg func108 11 ?_;refine Rn.jG D0 Y (G:=Int) (λg=>[(0,.slice A0 (x0).length c0),(1,iv x1),(2,.func (.func 65) #[] [].toArray),(6,iv 20),(7,iv g)]) (λg=>[slR A0 c0 T_api_Pair.rep x0]) (λj g=>j g) ?_ ?_
 ·rintro y3 w4 D4 Y
  try dsimp only at Y
  refine gg 6 rfl ?_;obtain ⟨p5,e5,Y⟩:=bindE Y
  refine Rn.c0 (cK func139) (m_slices_insertionSortCmpFunc_api_Pair_s2_sim (Z0:=All) e5 (slR_all (D4.get 0 rfl)) :) D4 λw5 _ D6=>?_
  refine gg 1 rfl ?_;refine Rn.jG D0 Y (G:=Unit) (λg=>[]) (λg=>[]) (λj g=>j ()) ?_ ?_
  ·rintro _ w7 D7 Y
   try dsimp only at Y
   refine Rn.end0 func108 rfl ?_;obtain rfl:=someE Y;exact ⟨rfl,D7.pk []⟩
  intro j2 Y K2;refine gg 1 rfl ?_;refine Rn.loopF (G:=Int) (λg=>[(0,.slice A0 (x0).length c0),(1,iv x1),(2,.func (.func 65) #[] [].toArray),(6,iv g)]) (λg w'=>Hp Z0 No w w' [slR A0 c0 T_api_Pair.rep x0]) (λn g=>m_slices_stableCmpFunc_api_Pair_s1_L1 x1 j2 n g) fuel 20 sA (D6.pk [0]) Y (λ_=>rfl) ?_;clear Y;rintro m9 y8 w9 D9 Y N9;replace Y:m_slices_stableCmpFunc_api_Pair_s1_L1 x1 j2 (m9+1) y8=some r:=Y;rw [m_slices_stableCmpFunc_api_Pair_s1_L1] at Y;refine gg 7 rfl ?_;refine aD Y (λh10 Y=>?_) (λh10 Y=>?_)
  ·cases Y
  refine gg 1 rfl ?_;exact K2 () _ _ (sb trivial) (D9.pk []) Y
 intro j1 Y K1;refine gg 1 rfl ?_;refine Rn.loopF (G:=Int×Int) (λg=>[(0,.slice A0 (x0).length c0),(1,iv x1),(2,.func (.func 65) #[] [].toArray),(6,iv 20),(7,iv (g.1)),(8,iv (g.2))]) (λg w'=>Hp Z0 No w w' [slR A0 c0 T_api_Pair.rep x0]) (λn g=>m_slices_stableCmpFunc_api_Pair_s1_L2 x1 j1 n g.1 g.2) fuel (0,20) sA (D2.pk [0]) Y (λ_=>rfl) ?_;clear Y;rintro m13 ⟨y11,y12⟩ w13 D13 Y N13;replace Y:m_slices_stableCmpFunc_api_Pair_s1_L2 x1 j1 (m13+1) y11 y12=some r:=Y;rw [m_slices_stableCmpFunc_api_Pair_s1_L2] at Y;refine gg 7 rfl ?_;refine aD Y (λh14 Y=>?_) (λh14 Y=>?_)
 ·cases Y
 refine gg 1 rfl ?_;exact K1 y11 _ _ sA (D13.pk [0]) Y
theorem m_slices_SortStableFunc_api_Pair_api_Pair_s1_sim {x0:(List T_api_Pair)} {r:Unit} (Y:m_slices_SortStableFunc_api_Pair_api_Pair_s1 x0=some r) (f0:(slR A0 c0 T_api_Pair.rep x0).H Z0 w) :
 Calls prog 64 #[.slice A0 (x0).length c0,.func (.func 65) #[] [].toArray] w λx w'=>x=.returned (.tuple #[])∧Hp Z0 No w w' []:=by
 obtain ⟨D0,D2,hc0⟩:=knA f0;refine eg func64 3 ?_;refine Rn.q rfl (V.lenV U63 rfl) (gg 1 rfl ?_);obtain ⟨p3,e3,Y⟩:=bindE Y
 refine Rn.c0 (cK func108) (m_slices_stableCmpFunc_api_Pair_s1_sim (Z0:=All) e3 (slR_all (D2.get 0 rfl)) :) D2 λw3 _ D4=>?_
 refine gg 1 rfl ?_;refine Rn.end0 func64 rfl ?_;obtain rfl:=someE Y;exact ⟨rfl,D4.pk []⟩
theorem m_label_Sorted_sim {x0:(List T_api_Pair)} {r:(List T_api_Pair)} (Y:m_label_Sorted x0=some r) (f0:(slR A0 c0 T_api_Pair.rep x0).H Z0 w) :
 Calls prog 32 #[.slice A0 (x0).length c0] w λx w'=>∃ A_0_0 c_0_0,x=.returned (.slice A_0_0 (r).length c_0_0)∧Hp Z0 No w w' [ownR 113 A_0_0 c_0_0 T_api_Pair.rep r]:=by
 obtain ⟨D0,D2,hc0⟩:=knA f0;refine eg func32 7 ?_;obtain ⟨p3,e3,Y⟩:=bindE Y
 refine Rn.c2 (cK func63) (m_slices_Clone_api_Pair_api_Pair_sim (Z0:=All) e3 (slR_all (D2.get 0 rfl)) :) λA3_0_0 c3_0_0 w3 Q3=>?_
 have D5:=D2.callF (flC (ownR_flat T_api_Pair.flat _ _ _ _) fl0) Q3;refine gg 5 rfl ?_;obtain ⟨p6,e6,Y⟩:=bindE Y
 refine Rn.c0 (cK func64) (m_slices_SortStableFunc_api_Pair_api_Pair_s1_sim (Z0:=All) e6 (own_slR (D5.get 1 rfl)) :) D5 λw6 _ D7=>?_
 refine gg 6 rfl ?_
 cases Y
 exact Rn.R1 func32 ⟨A3_0_0,c3_0_0,rfl,D7.pk [1]⟩
theorem m_label_Text_sim {x0:(List UInt8)} {x1:(List T_api_Pair)} {r:((List UInt8)×Int)} (Y:m_label_Text x0 x1=some r) (f0:(slR A1 c1 T_api_Pair.rep x1).H Z0 w) :
 Calls prog 59 #[Str (x0),.slice A1 (x1).length c1] w λx w'=>x=.returned (.tuple #[Str (r.1),iv r.2])∧Hp Z0 No w w' []:=by
 obtain ⟨D0,D2,hc0⟩:=knA f0;refine eg func59 10 ?_;obtain ⟨p3,e3,Y⟩:=bindE Y
 refine Rn.c0 (cK func55) (m_label_Check_sim (Z0:=All) e3 (slR_all (D2.get 0 rfl)) :) D2 λw3 _ D4=>?_
 refine gg 7 rfl ?_;refine aD Y (λh5 Y=>?_) (λh5 Y=>?_)
 ·cases Y
 refine gg 3 rfl (Rn.al D4 Tryz.zeroValue169 λb6 w6 D8=>?_);replace D8:=D8.nf [_,boxR _ _ [_,_]] rfl;have D9:Hp Z0 No w w6 [slR A1 c1 T_api_Pair.rep x1,bldR 169 5 b6 none 0 ([]:List UInt8)]:=D8.toBld 1 rfl;refine gg 4 rfl ?_;obtain ⟨z10,e10,Y⟩:=bindE Y;have D11:=D9.cu [0] [1]
 refine Rn.c2 (cK func103) (bld_ws _ _ _ _ _ x0 D11.lend e10) λA10 c10 w10 Q10=>?_
 have D12:=D11.callAZ Q10;refine gg 5 rfl ?_;obtain ⟨p13,e13,Y⟩:=bindE Y
 refine Rn.c2 (cK func32) (m_label_Sorted_sim (Z0:=All) e13 (slR_all (D12.get 0 rfl)) :) λA13_0_0 c13_0_0 w13 Q13=>?_
 have D15:=D12.callF (flC (ownR_flat T_api_Pair.flat _ _ _ _) fl0) Q13;refine Rn.q rfl (V.lenV U63 rfl) (gg 2 rfl ?_);refine Rn.jG D0 Y (G:=(List UInt8)×Option Addr×Nat) (λg=>[(7,pt b6 0)]) (λg=>[ownR 113 A13_0_0 c13_0_0 T_api_Pair.rep p13,bldR 169 5 b6 (g.2.1) (g.2.2) (g.1)]) (λj g=>j g.1) ?_ ?_
 ·rintro ⟨y16,A17,c17⟩ w18 D18 Y
  try dsimp only at Y
  refine gg 2 rfl ?_;have D20:=D18.cu [0] [1];refine Rn.cq (cK func104) (bld_str _ _ _ _ _ D20.lend) ?_;rintro _ w19 ⟨rfl,Q19⟩;refine ⟨_,rfl,?_⟩;have D21:=D20.callAZ Q19;refine gg 3 rfl ?_
  cases Y
  exact Rn.R2 func59 ⟨rfl,D21.pk []⟩
 intro j1 Y K1;refine gg 1 rfl ?_;refine Rn.loopF (G:=Int×(List UInt8)×Option Addr×Nat) (λg=>[(7,pt b6 0),(19,.slice A13_0_0 (p13).length c13_0_0),(20,iv (p13.length:Int)),(21,iv (g.1))]) (λg w'=>Hp Z0 No w w' [ownR 113 A13_0_0 c13_0_0 T_api_Pair.rep p13,bldR 169 5 b6 (g.2.2.1) (g.2.2.2) (g.2.1)]) (λn g=>m_label_Text_L1 p13 j1 n g.1 g.2.1) fuel (0,z10,A10,c10) sA (D15.pk [2,1]) Y (λ_=>rfl) ?_;clear Y;rintro m25 ⟨y22,y23,A24,c24⟩ w25 D25 Y N25;replace Y:m_label_Text_L1 p13 j1 (m25+1) y22 y23=some r:=Y;rw [m_label_Text_L1] at Y;refine gg 5 rfl ?_;refine aD Y (λh26 Y=>?_) (λh26 Y=>?_)
 ·cases Y
 refine gg 1 rfl ?_;exact K1 (y23,A24,c24) _ _ sA (D25.pk [0,1]) Y
theorem m_point_bit_sim {x0:Bool} {r:Int} (Y:m_point_bit x0=some r)  :
 Calls prog 60 #[.bool (x0)] w λx w'=>x=.returned (iv r)∧Hp Z0 No w w' []:=by
 have D0:=Hp.nil Z0 No w;have hc0:=Calm.nil;refine eg func60 9 ?_;refine aS Y (λh1 Y=>?_) (λh1 Y=>?_)
 ·cases Y
 refine gg 5 rfl ?_
 cases Y
 exact Rn.R1 func60 ⟨rfl,D0.pk []⟩
theorem m_point_Key_sim {x0:T_api_Point} {r:((List UInt8)×Int)} (Y:m_point_Key x0=some r) (h0:T_api_Point.rep.rel Z0 w cs0 x0) :
 Calls prog 30 #[.agg cs0.toArray] w λx w'=>x=.returned (.tuple #[Str (r.1),iv r.2])∧Hp Z0 No w w' []:=by
 have D0:=Hp.nil Z0 No w;have hc0:=Calm.nil;obtain ⟨Ar1,cr1,Ar3,cr3,Ar5,cr5,rfl,fs1,fs3,fs5⟩:=T_api_Point.relE h0;obtain ⟨D7,hc0⟩:=D0.kn (r:=slR Ar1 cr1 T_api_Pair.rep x0.Attrs) hc0 fs1;obtain ⟨D8,hc0⟩:=D7.kn (r:=slR Ar3 cr3 w64R x0.Hist.Pos.Counts) hc0 fs3;obtain ⟨D9,hc0⟩:=D8.kn (r:=slR Ar5 cr5 w64R x0.Hist.Neg.Counts) hc0 fs5;refine eg func30 2 ?_;refine Rn.box rfl rfl rfl rfl rfl ?_;intro b10 w10 hb10 m10 e10;have D12:=(D9.addBox hb10 e10 m10).nf [_,_,_,boxR _ _ [_,_,_,_,_,_,_,_,_,_,_,_,_,_,_,_,_]] rfl;refine gg 6 rfl (Rn.q rfl (V.ldBA [_,_,_,_,_,_,_,_,_,_,_,_,_,_,_,_,_] V65 O65 rfl (D12.get 3 rfl) rfl rfl) ?_);obtain ⟨p13,e13,Y⟩:=bindE Y
 refine Rn.c0 (cK func37) (m_point_Check_sim (Z0:=All) e13 (show T_api_Point.rep.rel All _ _ _ from ⟨_,_,rfl,⟨rfl,trivial⟩,⟨_,_,rfl,⟨_,_,rfl,(slR_all (D12.get 0 rfl)).1,(slR_all (D12.get 0 rfl)).2.1,(slR_all (D12.get 0 rfl)).2.2⟩,⟨_,_,rfl,⟨rfl,trivial⟩,⟨_,_,rfl,⟨rfl,trivial⟩,⟨_,_,rfl,⟨rfl,trivial⟩,⟨_,_,rfl,⟨rfl,trivial⟩,⟨_,_,rfl,⟨rfl,trivial⟩,⟨_,_,rfl,⟨rfl,trivial⟩,⟨_,_,rfl,⟨rfl,trivial⟩,⟨_,_,rfl,⟨rfl,trivial⟩,⟨_,_,rfl,⟨_,_,rfl,⟨rfl,trivial⟩,⟨_,_,rfl,⟨rfl,trivial⟩,⟨_,_,rfl,⟨_,_,rfl,⟨rfl,trivial⟩,⟨_,_,rfl,(slR_all (D12.get 1 rfl)).1,(slR_all (D12.get 1 rfl)).2.1,(slR_all (D12.get 1 rfl)).2.2⟩⟩,⟨_,_,rfl,⟨rfl,trivial⟩,⟨_,_,rfl,(slR_all (D12.get 2 rfl)).1,(slR_all (D12.get 2 rfl)).2.1,(slR_all (D12.get 2 rfl)).2.2⟩⟩⟩⟩⟩,⟨rfl,trivial⟩⟩⟩⟩⟩⟩⟩⟩⟩⟩⟩⟩) :) D12 λw13 _ D14=>?_
 refine gg 7 rfl ?_;refine aD Y (λh15 Y=>?_) (λh15 Y=>?_)
 ·cases Y
 refine gg 4 rfl (Rn.q rfl (V.ldB V9 rfl (D14.get 3 rfl) rfl) (gg 1 rfl (Rn.q rfl (V.ldB V63 rfl (D14.get 3 rfl) rfl) ?_)));obtain ⟨p16,e16,Y⟩:=bindE Y
 refine Rn.c0 (cK func59) (m_label_Text_sim (Z0:=All) e16 (slR_all (D14.get 0 rfl)) :) D14 λw16 _ D17=>?_
 refine gg 7 rfl ?_;refine Rn.drawH rfl D17 ?_;intro w18 D18;refine dq [0] ?_;obtain ⟨z19,e19,Y⟩:=bindE Y;refine RH.tk 1 rfl (λw' hDr=>V.catZ rfl rfl e19) ?_;refine dq [2] ?_;refine RH.tk 3 rfl (λw' hDr=>V.ldB V3 rfl ((D18.ext hDr).get 3 rfl) rfl) ?_;refine dq [4] ?_;refine RH.tk 5 rfl (λw' hDr=>V.cv8 U3 U5 rfl) ?_;refine dq [6] ?_;refine RH.tk 7 rfl (λw' hDr=>V.ldB V3 rfl ((D18.ext hDr).get 3 rfl) rfl) ?_;refine dq [8] ?_;refine RH.tk 9 rfl (λw' hDr=>V.cv8 U3 U5 rfl) ?_;refine dq [10] ?_;refine RH.ho 11 rfl (V.ldB V4 rfl (D18.get 3 rfl) rfl) ?_;obtain ⟨p20,e20,Y⟩:=bindE Y;refine RH.cq (cK func60) 12 (m_point_bit_sim (Z0:=All) e20  :) ?_;rintro _ w20 ⟨rfl,Q20⟩;refine ⟨_,rfl,((Ext.refl _).trans Q20.fr),?_⟩;have D21:=D18.call0 Q20;refine dq [13] ?_;refine RH.ho 14 rfl (V.cv8 U3 U5 rfl) ?_;refine RH.bslS 15 (by kernel_rfl) rfl rfl rfl U124 el5 rfl rfl rfl rfl (by first|exact szs rfl|(simp [Value.cells];done)) (by decide) ?_;intro b22 w22 hb22 m22 e22;have D23:=D21.addLit (rep:=byteR) (xs:=([toU8 (W64 (48+x0.Kind)),toU8 (W64 (48+x0.Temp)),toU8 (W64 (48+p20))]:List UInt8)) (vss:=[[u8v (toU8 (W64 (48+x0.Kind)))],[u8v (toU8 (W64 (48+x0.Temp)))],[u8v (toU8 (W64 (48+p20)))]]) hb22 e22 m22 rfl rfl rfl ((rels_cons (λ_ _=>⟨rfl,trivial⟩) (rels_cons (λ_ _=>⟨rfl,trivial⟩) (rels_cons (λ_ _=>⟨rfl,trivial⟩) rels0))));refine ⟨(((Ext.refl _).trans Q20.fr).trans e22),?_⟩;refine RH.ho 16 rfl (V.b2s U124 U9 U5 rfl rfl (Own.sl (D23.get 4 rfl))) ?_;obtain ⟨z25,e25,Y⟩:=bindE Y;refine RH.ho 17 rfl (V.catZ rfl rfl e25) ?_;refine dq [18,19] ?_;refine RH.dn ?_
 cases Y
 exact Rn.R2 func30 ⟨rfl,D23.pk []⟩
theorem m_query_Series_sim {x0:(List T_api_Point)} {r:((List (List UInt8))×Int)} (Y:m_query_Series x0=some r) (f0:(slR A0 c0 T_api_Point.rep x0).H Z0 w) :
 Calls prog 12 #[.slice A0 (x0).length c0] w λx w'=>∃ A_0_0 c_0_0,x=.returned (.tuple #[.slice A_0_0 (r.1).length c_0_0,iv r.2])∧Hp Z0 No w w' [ownR 9 A_0_0 c_0_0 textR r.1]:=by
 obtain ⟨D0,D2,hc0⟩:=knA f0;refine eg func12 9 ?_;refine Rn.q rfl (V.lenV U22 rfl) (gg 2 rfl ?_);refine Rn.jG D0 Y (G:=Unit) (λg=>[(0,.slice A0 (x0).length c0)]) (λg=>[slR A0 c0 T_api_Point.rep x0]) (λj g=>j ()) ?_ ?_
 ·rintro _ w3 D3 Y
  try dsimp only at Y
  refine gg 6 rfl (Rn.mkMH v1 (intR .i64) D3 rfl rfl rfl ?_);intro b4 w4 D4;refine gg 6 rfl (Rn.q rfl (V.lenV U22 rfl) (gg 2 rfl ?_));refine Rn.jG D0 Y (G:=(List (List UInt8))×Option Addr×Nat) (λg=>[(7,.slice (g.2.1) ((g.1)).length (g.2.2))]) (λg=>[ownR 9 (g.2.1) (g.2.2) textR (g.1)]) (λj g=>j g.1) ?_ ?_
  ·rintro ⟨y6,A7,c7⟩ w9 D9 Y
   try dsimp only at Y
   refine gg 4 rfl (Rn.q rfl (V.lenV U33 rfl) (gg 2 rfl ?_));refine aD Y (λh10 Y=>?_) (λh10 Y=>?_)
   ·cases Y
   refine gg 7 rfl ?_
   cases Y
   exact Rn.R2 func12 ⟨A7,c7,rfl,D9.pk [0]⟩
  intro j2 Y K2;refine gg 1 rfl ?_;have D16:=D4.addNil 9 textR;refine Rn.loopF (G:=(List (List UInt8))×Int×(Kv Int)×Option Addr×Nat) (λg=>[(7,.slice (g.2.2.2.1) ((g.1)).length (g.2.2.2.2)),(8,.map (some b4)),(26,.slice A0 (x0).length c0),(27,iv (x0.length:Int)),(28,iv (g.2.1))]) (λg w'=>Hp Z0 No w w' [slR A0 c0 T_api_Point.rep x0,ownR 9 (g.2.2.2.1) (g.2.2.2.2) textR (g.1),mapR b4 v1 (intR .i64) (g.2.2.1)]) (λn g=>m_query_Series_L1 x0 j2 n g.1 g.2.1 g.2.2.1) fuel (([]:List (List UInt8)),0,([]:Kv Int),none,0) sA (D16.pk [0,2,1]) Y (λ_=>rfl) ?_;clear Y;rintro m18 ⟨y11,y14,y15,A12,c12⟩ w18 D18 Y N18;replace Y:m_query_Series_L1 x0 j2 (m18+1) y11 y14 y15=some r:=Y;rw [m_query_Series_L1] at Y;refine gg 5 rfl ?_;refine bD Y 2 1 (λh19 Y=>?_) (λh19 Y=>?_)
  ·refine Rn.jG D0 Y (G:=(List (List UInt8))×(Kv Int)×Option Addr×Nat) (λg=>[(7,.slice (g.2.2.1) ((g.1)).length (g.2.2.2)),(8,.map (some b4)),(26,.slice A0 (x0).length c0),(27,iv (x0.length:Int)),(28,iv y14)]) (λg=>[slR A0 c0 T_api_Point.rep x0,ownR 9 (g.2.2.1) (g.2.2.2) textR (g.1),mapR b4 v1 (intR .i64) (g.2.1)]) (λj g=>j g.1 g.2.1) ?_ ?_
   ·rintro ⟨y20,y23,A21,c21⟩ w24 D24 Y
    try dsimp only at Y
    refine gg 4 rfl ?_;exact N18 (y20,(W64 (y14+1)),y23,A21,c21) _ _ sA (D24.pk [0,1,2]) Y
   intro j3 Y K3;refine gg 3 rfl ?_;obtain ⟨z25,e25,Y⟩:=bindE Y;refine Rn.ixH D18 0 rfl e25 rfl rfl rfl U22 O65 rfl rfl rfl rfl ?_;rintro b25 o25 vs25 hr25 D25;obtain ⟨Ar26,cr26,Ar28,cr28,Ar30,cr30,rfl,fs26,fs28,fs30⟩:=T_api_Point.relE hr25;have D33:=Hp.know1 (M:=[slR Ar26 cr26 T_api_Pair.rep z25.Attrs,slR Ar28 cr28 w64R z25.Hist.Pos.Counts,slR Ar30 cr30 w64R z25.Hist.Neg.Counts]) D25 (λ_ h=>h) (knC (λ_ h=>h) fs26 (knC (λ_ h=>h) fs28 (knC (λ_ h=>h) fs30 kn0)));refine Rn.q rfl (V.ldA (vs:=[_,_,_,_,_,_,_,_,_,_,_,_,_,_,_,_,_]) V65 O65 rfl (Rd.pre (D33.get 3 rfl).2 17) rfl) (Rn.als rfl rfl rfl Tryz.zeroValue65 rfl O65 rfl rfl rfl rfl (by first|exact ones rfl|(simp [Value.oneCell'];done)) ?_);intro b34 w34 hb34 m34 e34;have D36:=(D33.addBox hb34 e34 m34).nf [_,_,_,_,_,_,_,boxR _ _ [_,_,_,_,_,_,_,_,_,_,_,_,_,_,_,_,_]] rfl;refine gg 3 rfl (Rn.q rfl (V.ldBA [_,_,_,_,_,_,_,_,_,_,_,_,_,_,_,_,_] V65 O65 rfl (D36.get 7 rfl) rfl rfl) ?_);obtain ⟨p37,e37,Y⟩:=bindE Y
   refine Rn.c0 (cK func30) (m_point_Key_sim (Z0:=All) e37 (show T_api_Point.rep.rel All _ _ _ from ⟨_,_,rfl,⟨rfl,trivial⟩,⟨_,_,rfl,⟨_,_,rfl,(slR_all (D36.get 4 rfl)).1,(slR_all (D36.get 4 rfl)).2.1,(slR_all (D36.get 4 rfl)).2.2⟩,⟨_,_,rfl,⟨rfl,trivial⟩,⟨_,_,rfl,⟨rfl,trivial⟩,⟨_,_,rfl,⟨rfl,trivial⟩,⟨_,_,rfl,⟨rfl,trivial⟩,⟨_,_,rfl,⟨rfl,trivial⟩,⟨_,_,rfl,⟨rfl,trivial⟩,⟨_,_,rfl,⟨rfl,trivial⟩,⟨_,_,rfl,⟨rfl,trivial⟩,⟨_,_,rfl,⟨_,_,rfl,⟨rfl,trivial⟩,⟨_,_,rfl,⟨rfl,trivial⟩,⟨_,_,rfl,⟨_,_,rfl,⟨rfl,trivial⟩,⟨_,_,rfl,(slR_all (D36.get 5 rfl)).1,(slR_all (D36.get 5 rfl)).2.1,(slR_all (D36.get 5 rfl)).2.2⟩⟩,⟨_,_,rfl,⟨rfl,trivial⟩,⟨_,_,rfl,(slR_all (D36.get 6 rfl)).1,(slR_all (D36.get 6 rfl)).2.1,(slR_all (D36.get 6 rfl)).2.2⟩⟩⟩⟩⟩,⟨rfl,trivial⟩⟩⟩⟩⟩⟩⟩⟩⟩⟩⟩⟩) :) D36 λw37 _ D38=>?_
   refine gg 10 rfl ?_;obtain ⟨vs39,hl39,hr39⟩:=Map.lkp (D38.get 2 rfl) p37.1 (zs:=[iv 0]) (zm:=(0:Int)) (show (intR .i64).rel _ _ _ _ from ⟨rfl,trivial⟩);obtain ⟨rfl,_⟩:=hr39;refine Rn.q rfl (V.lkpH hl39 U92 U9 Tryz.zeroValue3 rfl rfl) (gg 1 rfl (Rn.muH (v:=W64 (((lookP p37.1 y15).getD 0)+1)) (vs:=[iv (W64 (((lookP p37.1 y15).getD 0)+1))]) D38 2 rfl rfl rfl U92 U9 rfl rfl rfl (⟨rfl,trivial⟩) ?_));intro w40 D40;refine gg 5 rfl ?_;obtain ⟨vs41,hl41,hr41⟩:=Map.lkp (D40.get 2 rfl) p37.1 (zs:=[iv 0]) (zm:=(0:Int)) (show (intR .i64).rel _ _ _ _ from ⟨rfl,trivial⟩);obtain ⟨rfl,_⟩:=hr41;refine Rn.q rfl (V.lkpH hl41 U92 U9 Tryz.zeroValue3 rfl rfl) (gg 2 rfl ?_);refine bD Y 3 2 (λh42 Y=>?_) (λh42 Y=>?_)
   ·obtain ⟨z43,e43,Y⟩:=bindE Y;refine Rn.pushH (z:=p37.1) (vs:=[Str (p37.1)]) D40 1 rfl e43 rfl rfl rfl rfl U33 el9 rfl rfl rfl rfl (λ_=>rfl) (⟨rfl,trivial⟩) ?_;intro A43 c43 w43 u43 D43;refine gg 3 rfl ?_;exact K3 (z43,(putP p37.1 (W64 (((lookP p37.1 y15).getD 0)+1)) y15),A43,c43) _ _ sA (D43.pk [0,1,2]) Y
   exact K3 (y11,(putP p37.1 (W64 (((lookP p37.1 y15).getD 0)+1)) y15),A12,c12) _ _ sA (D40.pk [0,1,2]) Y
  exact K2 (y11,A12,c12) _ _ sA (D18.pk [1]) Y
 intro j1 Y K1;refine gg 1 rfl ?_;refine Rn.loopF (G:=Int) (λg=>[(0,.slice A0 (x0).length c0),(13,.slice A0 (x0).length c0),(14,iv (x0.length:Int)),(15,iv g)]) (λg w'=>Hp Z0 No w w' [slR A0 c0 T_api_Point.rep x0]) (λn g=>m_query_Series_L2 x0 j1 n g) fuel 0 sA (D2.pk [0]) Y (λ_=>rfl) ?_;clear Y;rintro m46 y45 w46 D46 Y N46;replace Y:m_query_Series_L2 x0 j1 (m46+1) y45=some r:=Y;rw [m_query_Series_L2] at Y;refine gg 5 rfl ?_;refine bD Y 5 1 (λh47 Y=>?_) (λh47 Y=>?_)
 ·obtain ⟨z48,e48,Y⟩:=bindE Y;refine Rn.ixH D46 0 rfl e48 rfl rfl rfl U22 O65 rfl rfl rfl rfl ?_;rintro b48 o48 vs48 hr48 D48;obtain ⟨Ar49,cr49,Ar51,cr51,Ar53,cr53,rfl,fs49,fs51,fs53⟩:=T_api_Point.relE hr48;have D56:=Hp.know1 (M:=[slR Ar49 cr49 T_api_Pair.rep z48.Attrs,slR Ar51 cr51 w64R z48.Hist.Pos.Counts,slR Ar53 cr53 w64R z48.Hist.Neg.Counts]) D48 (λ_ h=>h) (knC (λ_ h=>h) fs49 (knC (λ_ h=>h) fs51 (knC (λ_ h=>h) fs53 kn0)));refine Rn.q rfl (V.ldA (vs:=[_,_,_,_,_,_,_,_,_,_,_,_,_,_,_,_,_]) V65 O65 rfl (Rd.pre (D56.get 1 rfl).2 17) rfl) (Rn.als rfl rfl rfl Tryz.zeroValue65 rfl O65 rfl rfl rfl rfl (by first|exact ones rfl|(simp [Value.oneCell'];done)) ?_);intro b57 w57 hb57 m57 e57;have D59:=(D56.addBox hb57 e57 m57).nf [_,_,_,_,_,boxR _ _ [_,_,_,_,_,_,_,_,_,_,_,_,_,_,_,_,_]] rfl;refine gg 3 rfl (Rn.q rfl (V.ldBA [_,_,_,_,_,_,_,_,_,_,_,_,_,_,_,_,_] V65 O65 rfl (D59.get 5 rfl) rfl rfl) ?_);obtain ⟨p60,e60,Y⟩:=bindE Y
  refine Rn.c0 (cK func37) (m_point_Check_sim (Z0:=All) e60 (show T_api_Point.rep.rel All _ _ _ from ⟨_,_,rfl,⟨rfl,trivial⟩,⟨_,_,rfl,⟨_,_,rfl,(slR_all (D59.get 2 rfl)).1,(slR_all (D59.get 2 rfl)).2.1,(slR_all (D59.get 2 rfl)).2.2⟩,⟨_,_,rfl,⟨rfl,trivial⟩,⟨_,_,rfl,⟨rfl,trivial⟩,⟨_,_,rfl,⟨rfl,trivial⟩,⟨_,_,rfl,⟨rfl,trivial⟩,⟨_,_,rfl,⟨rfl,trivial⟩,⟨_,_,rfl,⟨rfl,trivial⟩,⟨_,_,rfl,⟨rfl,trivial⟩,⟨_,_,rfl,⟨rfl,trivial⟩,⟨_,_,rfl,⟨_,_,rfl,⟨rfl,trivial⟩,⟨_,_,rfl,⟨rfl,trivial⟩,⟨_,_,rfl,⟨_,_,rfl,⟨rfl,trivial⟩,⟨_,_,rfl,(slR_all (D59.get 3 rfl)).1,(slR_all (D59.get 3 rfl)).2.1,(slR_all (D59.get 3 rfl)).2.2⟩⟩,⟨_,_,rfl,⟨rfl,trivial⟩,⟨_,_,rfl,(slR_all (D59.get 4 rfl)).1,(slR_all (D59.get 4 rfl)).2.1,(slR_all (D59.get 4 rfl)).2.2⟩⟩⟩⟩⟩,⟨rfl,trivial⟩⟩⟩⟩⟩⟩⟩⟩⟩⟩⟩⟩) :) D59 λw60 _ D61=>?_
  refine gg 7 rfl ?_;refine aD Y (λh62 Y=>?_) (λh62 Y=>?_)
  ·cases Y
  refine gg 6 rfl ?_;exact N46 (W64 (y45+1)) _ _ sA (D61.pk [0]) Y
 exact K1 () _ _ sA (D46.pk [0]) Y
theorem m_internal_stringslite_IndexByte_sim {x0:(List UInt8)} {x1:UInt8} {r:Int} (Y:m_internal_stringslite_IndexByte x0 x1=some r)  :
 Calls prog 167 #[Str (x0),u8v x1] w λx w'=>x=.returned (iv r)∧Hp Z0 No w w' []:=by
 have D0:=Hp.nil Z0 No w;have hc0:=Calm.nil;refine eg func167 8 ?_;refine Rn.q rfl (V.indexByte (s:=x0) (c:=x1) func191 (by kernel_rfl) (by kernel_rfl) (by kernel_rfl) (by kernel_rfl) rfl) (gg 2 rfl ?_)
 cases Y
 exact Rn.R1 func167 ⟨rfl,D0.pk []⟩
theorem m_internal_stringslite_Index_sim {x0:(List UInt8)} {x1:(List UInt8)} {r:Int} (Y:m_internal_stringslite_Index x0 x1=some r)  :
 Calls prog 151 #[Str (x0),Str (x1)] w λx w'=>x=.returned (iv r)∧Hp Z0 No w w' []:=by
 have D0:=Hp.nil Z0 No w;have hc0:=Calm.nil;refine eg func151 7 ?_;refine Rn.q rfl (V.lenS U9 rfl) (gg 9 rfl ?_);refine Rn.cutR [7] [(0,Str (x0)),(1,Str (x1)),(5,iv (x1.length:Int)),(23,.bool (decide (((x1.length:Int)=0)∨(x1=x0))))] (λK1=>?_) ?_
 ·refine Rn.partD (t:=19) rfl (λh2=>?_) (λh2=>?_)
  ·refine gg 4 rfl ?_;exact K1 _ sA
  refine gg 2 rfl (Rn.q rfl (V.eqlS rfl rfl) (gg 1 rfl ?_));exact K1 _ sA
 refine gg 2 rfl ?_;refine aD Y (λh3 Y=>?_) (λh3 Y=>?_)
 ·cases Y
 refine gg 6 rfl ?_;refine aD Y (λh4 Y=>?_) (λh4 Y=>?_)
 ·refine gg 4 rfl ?_;obtain ⟨z5,e5,Y⟩:=bindE Y;refine Rn.q rfl (V.idxSZ U9 rfl rfl e5) ?_;obtain ⟨p6,e6,Y⟩:=bindE Y
  refine Rn.c0 (cK func167) (m_internal_stringslite_IndexByte_sim (Z0:=All) e6  :) D0 λw6 _ D7=>?_
  refine gg 2 rfl ?_
  cases Y
  exact Rn.R1 func151 ⟨rfl,D7.pk []⟩
 cases Y
theorem m_internal_stringslite_Cut_sim {x0:(List UInt8)} {x1:(List UInt8)} {r:((List UInt8)×(List UInt8)×Bool)} (Y:m_internal_stringslite_Cut x0 x1=some r)  :
 Calls prog 123 #[Str (x0),Str (x1)] w λx w'=>x=.returned (.tuple #[Str (r.1),Str (r.2.1),.bool (r.2.2)])∧Hp Z0 No w w' []:=by
 have D0:=Hp.nil Z0 No w;have hc0:=Calm.nil;refine eg func123 11 ?_;obtain ⟨p1,e1,Y⟩:=bindE Y
 refine Rn.c0 (cK func151) (m_internal_stringslite_Index_sim (Z0:=All) e1  :) D0 λw1 _ D2=>?_
 refine gg 7 rfl ?_;refine bD Y 1 8 (λh3 Y=>?_) (λh3 Y=>?_)
 ·refine Rn.drawP rfl D2 ?_;intro w4 D4;refine dq [0,1] ?_;obtain ⟨z5,e5,Y⟩:=bindE Y;refine RH.tp 2 rfl (V.cutSZ U9 rfl e5 rfl rfl) ?_;refine dq [3,4,5] ?_;refine RH.tp 6 rfl (V.lenS U9 rfl) ?_;refine dq [7] ?_;obtain ⟨z6,e6,Y⟩:=bindE Y;refine RH.tp 8 rfl (V.cutSZ U9 rfl e6 rfl rfl) ?_;refine dq [9,10,11] ?_;refine RH.dn ?_;refine Rn.retG3 func123 rfl (rvT rfl) (rvT rfl) (rvT rfl) ?_;obtain rfl:=someE Y;exact ⟨rfl,D4.pk []⟩
 refine Rn.retG3 func123 rfl (rvT rfl) (rvT rfl) (rvT rfl) ?_;obtain rfl:=someE Y;exact ⟨rfl,D2.pk []⟩
theorem m_strings_Cut_sim {x0:(List UInt8)} {x1:(List UInt8)} {r:((List UInt8)×(List UInt8)×Bool)} (Y:m_strings_Cut x0 x1=some r)  :
 Calls prog 90 #[Str (x0),Str (x1)] w λx w'=>x=.returned (.tuple #[Str (r.1),Str (r.2.1),.bool (r.2.2)])∧Hp Z0 No w w' []:=by
 have D0:=Hp.nil Z0 No w;have hc0:=Calm.nil;refine eg func90 10 ?_;obtain ⟨p1,e1,Y⟩:=bindE Y
 refine Rn.c0 (cK func123) (m_internal_stringslite_Cut_sim (Z0:=All) e1  :) D0 λw1 _ D2=>?_
 refine gg 7 rfl ?_;refine Rn.retG3 func90 rfl (rvT rfl) (rvT rfl) (rvT rfl) ?_;obtain rfl:=someE Y;exact ⟨rfl,D2.pk []⟩
theorem m_label_Parse_sim {x0:(List UInt8)} {r:((List UInt8)×(List T_api_Pair)×Int×Int)} (Y:m_label_Parse x0=some r)  :
 Calls prog 91 #[Str (x0)] w λx w'=>∃ A_1_0 c_1_0,x=.returned (.tuple #[Str (r.1),.slice A_1_0 (r.2.1).length c_1_0,iv r.2.2.1,iv r.2.2.2])∧Hp Z0 No w w' [ownR 113 A_1_0 c_1_0 T_api_Pair.rep r.2.1]:=by
 have D0:=Hp.nil Z0 No w;have hc0:=Calm.nil;refine eg func91 10 ?_;obtain ⟨p1,e1,Y⟩:=bindE Y
 refine Rn.c0 (cK func90) (m_strings_Cut_sim (Z0:=All) e1  :) D0 λw1 _ D2=>?_
 refine gg 12 rfl ?_;obtain ⟨p3,e3,Y⟩:=bindE Y
 refine Rn.c0 (cK func93) (m_label_isName_sim (Z0:=All) e3  :) D2 λw3 _ D4=>?_
 refine Rn.q rfl (V.notB rfl) (gg 1 rfl ?_);refine aS Y (λh5 Y=>?_) (λh5 Y=>?_)
 ·cases Y
 refine gg 5 rfl (Rn.q rfl (V.lenS U9 rfl) (gg 3 rfl ?_));refine Rn.jG D0 Y (G:=(List T_api_Pair)×Option Addr×Nat) (λg=>[(2,Str (p1.1)),(3,.slice (g.2.1) ((g.1)).length (g.2.2))]) (λg=>[ownR 113 (g.2.1) (g.2.2) T_api_Pair.rep (g.1)]) (λj g=>j g.1) ?_ ?_
 ·rintro ⟨y6,A7,c7⟩ w9 D9 Y
  try dsimp only at Y
  refine gg 9 rfl ?_;refine Rn.retG4 func91 rfl (rvT rfl) (rvT rfl) (rvT rfl) (rvT rfl) ?_;obtain rfl:=someE Y;exact ⟨A7,c7,rfl,D9.pk [0]⟩
 intro j1 Y K1;refine gg 1 rfl ?_;have D16:=D4.addNil 113 T_api_Pair.rep;refine Rn.loopF (G:=(List T_api_Pair)×Int×(List UInt8)×Bool×Option Addr×Nat) (λg=>[(2,Str (p1.1)),(3,.slice (g.2.2.2.2.1) ((g.1)).length (g.2.2.2.2.2)),(4,iv (g.2.1)),(6,Str ((g.2.2.1))),(7,.bool ((g.2.2.2.1)))]) (λg w'=>Hp Z0 No w w' [ownR 113 (g.2.2.2.2.1) (g.2.2.2.2.2) T_api_Pair.rep (g.1)]) (λn g=>m_label_Parse_L1 j1 n g.1 g.2.1 g.2.2.1 g.2.2.2.1) fuel (([]:List T_api_Pair),(W64 ((p1.1.length:Int)+1)),p1.2.1,p1.2.2,none,0) sA (D16.pk [0]) Y (λ_=>rfl) ?_;clear Y;rintro m18 ⟨y10,y13,y14,y15,A11,c11⟩ w18 D18 Y N18;replace Y:m_label_Parse_L1 j1 (m18+1) y10 y13 y14 y15=some r:=Y;rw [m_label_Parse_L1] at Y;refine gg 5 rfl ?_;refine aS Y (λh19 Y=>?_) (λh19 Y=>?_)
 ·cases Y
 refine gg 1 rfl ?_;exact K1 (y10,A11,c11) _ _ sA (D18.pk [0]) Y
theorem m_chunk_Series_sim {x0:(List UInt8)} {r:(T_api_Point×Int)} (Y:m_chunk_Series x0=some r)  :
 Calls prog 53 #[Str (x0)] w λx w'=>∃ A_0_0 c_0_0 A_0_1 c_0_1 A_0_2 c_0_2,x=.returned (.tuple #[.agg [Str (r.1.Name),.slice A_0_0 (r.1.Attrs).length c_0_0,iv r.1.Kind,iv r.1.Temp,.bool (r.1.Mono),iv r.1.Start,iv r.1.Time,iv r.1.Int_,u64v r.1.Re,u64v r.1.Im,iv r.1.Hist.Scale,u64v r.1.Hist.Zero,iv r.1.Hist.Pos.Offset,.slice A_0_1 (r.1.Hist.Pos.Counts).length c_0_1,iv r.1.Hist.Neg.Offset,.slice A_0_2 (r.1.Hist.Neg.Counts).length c_0_2,iv r.1.Flags].toArray,iv r.2])∧Hp Z0 No w w' [ownR 113 A_0_0 c_0_0 T_api_Pair.rep r.1.Attrs,ownR 39 A_0_1 c_0_1 w64R r.1.Hist.Pos.Counts,ownR 39 A_0_2 c_0_2 w64R r.1.Hist.Neg.Counts]:=by
 have D0:=Hp.nil Z0 No w;have hc0:=Calm.nil;refine eg func53 2 ?_
 refine Rn.al D0 Tryz.zeroValue65 λb1 w1 D3=>?_
 replace D3:=D3.nf [boxR _ _ [_,_,_,_,_,_,_,_,_,_,_,_,_,_,_,_,_]] rfl;refine gg 5 rfl ?_;obtain ⟨p4,e4,Y⟩:=bindE Y
 refine Rn.c0 (cK func90) (m_strings_Cut_sim (Z0:=All) e4  :) D3 λw4 _ D5=>?_
 refine gg 11 rfl ?_;obtain ⟨p6,e6,Y⟩:=bindE Y
 refine Rn.c2 (cK func91) (m_label_Parse_sim (Z0:=All) e6  :) λA6_1_0 c6_1_0 w6 Q6=>?_
 have D8:=D5.callF (flC (ownR_flat T_api_Pair.flat _ _ _ _) fl0) Q6;refine gg 14 rfl (Rn.q rfl (V.notB rfl) (gg 1 rfl ?_));refine Rn.cutR [6,7,8,9,10,11,12,13,14,15,16,17,18,19,20] [(2,pt b1 0),(5,Str (p4.2.1)),(7,Str (p6.1)),(8,.slice A6_1_0 (p6.2.1).length c6_1_0),(31,.bool (decide (((!p4.2.2)=true)∨(p6.2.2.2≠0))))] (λK9=>?_) ?_
 ·refine Rn.part (t:=28) rfl (λh10=>?_) (λh10=>?_)
  ·refine gg 3 rfl ?_;exact K9 _ sA
  refine gg 3 rfl ?_;exact K9 _ sA
 refine gg 1 rfl ?_;refine Rn.cutR [11,12,13,14,15,16,17,18,19,20] [(2,pt b1 0),(5,Str (p4.2.1)),(7,Str (p6.1)),(8,.slice A6_1_0 (p6.2.1).length c6_1_0),(36,.bool (decide ((((!p4.2.2)=true)∨(p6.2.2.2≠0))∨((p4.2.1.length:Int)≠3))))] (λK11=>?_) ?_
 ·refine Rn.partD (t:=32) rfl (λh12=>?_) (λh12=>?_)
  ·refine gg 4 rfl ?_;exact K11 _ sA
  refine gg 1 rfl (Rn.q rfl (V.lenS U9 rfl) (gg 2 rfl ?_));exact K11 _ sA
 refine gg 1 rfl ?_;refine Rn.jR D0 Y (G:=Bool) [] (λg=>[(2,pt b1 0),(5,Str (p4.2.1)),(7,Str (p6.1)),(8,.slice A6_1_0 (p6.2.1).length c6_1_0),(46,.bool (g))]) (λg=>[boxR b1 65 [Str (([]:List UInt8)),.slice none 0 0,iv 0,iv 0,.bool false,iv 0,iv 0,iv 0,u64v (0:UInt64),u64v (0:UInt64),iv 0,u64v (0:UInt64),iv 0,.slice none 0 0,iv 0,.slice none 0 0,iv 0],ownR 113 A6_1_0 c6_1_0 T_api_Pair.rep p6.2.1]) (λj g=>j g) ?_ ?_
 ·rintro y13 w14 D14 Y
  try dsimp only at Y
  refine gg 1 rfl ?_;refine aS Y (λh15 Y=>?_) (λh15 Y=>?_)
  ·cases Y
  refine gg 2 rfl ?_;refine Rn.drawH rfl D14 ?_;intro w16 D16;refine dq [0,1,2] ?_;obtain ⟨z17,e17,Y⟩:=bindE Y;refine RH.tk 3 rfl (λw' hDr=>V.idxSZ U9 rfl rfl e17) ?_;refine RH.tk 4 rfl (λw' hDr=>V.cv8i (a:=z17) U5 U3 rfl) ?_;refine dq [5,6] ?_;obtain ⟨z18,e18,Y⟩:=bindE Y;refine RH.tk 7 rfl (λw' hDr=>V.idxSZ U9 rfl rfl e18) ?_;refine RH.tk 8 rfl (λw' hDr=>V.cv8i (a:=z18) U5 U3 rfl) ?_;refine dq [9,10] ?_;obtain ⟨z19,e19,Y⟩:=bindE Y;refine RH.tk 11 rfl (λw' hDr=>V.idxSZ U9 rfl rfl e19) ?_;refine RH.tk 12 rfl (λw' hDr=>V.eql rfl rfl) ?_;refine RH.tk 13 rfl (λw' hDr=>V.bldS (cs:=[_,_,_,_,_,_,_,_,_,_,_,_,_,_,_,_,_]) st65 rfl rfl) ?_;refine RH.alloc 14 (by kernel_rfl) rfl rfl rfl Tryz.zeroValue65 rfl ?_;intro b20 w20 hb20 m20 e20
  have hfr20:w16.heap.size≤b20:=by have hh:=((Ext.refl _):Ext w16 w16).size;omega
  have D22:=(D16.addBox hb20 e20 m20).nf [_,_,boxR _ _ [_,_,_,_,_,_,_,_,_,_,_,_,_,_,_,_,_]] rfl;refine ⟨((Ext.refl _).trans e20),?_⟩;refine RH.st 15 (by kernel_rfl) rfl rfl O65 rfl rfl rfl rfl (by first|exact ones rfl|(simp [Value.oneCell'];done)) (D22.get 2 rfl) (by first|exact nbl rfl|(simp;done)) ?_;intro w23 m23 x23;have D24:=(D22.st 2 rfl x23 m23).nf [_,_,boxR _ _ [_,_,_,_,_,_,_,_,_,_,_,_,_,_,_,_,_]] rfl;refine ⟨(ext_st ((Ext.refl _).trans e20) x23 hfr20),?_⟩;refine RH.dn ?_;refine gg 2 rfl (Rn.q rfl (V.ldBA [_,_,_,_,_,_,_,_,_,_,_,_,_,_,_,_,_] V65 O65 rfl (D24.get 2 rfl) rfl rfl) (Rn.als rfl rfl rfl Tryz.zeroValue65 rfl O65 rfl rfl rfl rfl (by first|exact ones rfl|(simp [Value.oneCell'];done)) ?_));intro b25 w25 hb25 m25 e25;have D27:=(D24.addBox hb25 e25 m25).nf [_,_,_,boxR _ _ [_,_,_,_,_,_,_,_,_,_,_,_,_,_,_,_,_]] rfl;refine gg 5 rfl (Rn.sq rfl O3 rfl rfl (D27.get 3 rfl) ?_);intro w28 m28 x28;have D29:=(D27.st 3 rfl x28 m28).nf [_,_,_,boxR _ _ [_,_,_,_,_,_,_,_,_,_,_,_,_,_,_,_,_]] rfl;refine gg 4 rfl (Rn.q rfl (V.ldB V3 rfl (D29.get 3 rfl) rfl) (gg 2 rfl ?_));refine aD Y (λh30 Y=>?_) (λh30 Y=>?_)
  ·cases Y
  refine gg 4 rfl (Rn.q rfl (V.ldBA [_,_,_,_,_,_,_,_,_,_,_,_,_,_,_,_,_] V65 O65 rfl (D29.get 3 rfl) rfl rfl) ?_);obtain ⟨p31,e31,Y⟩:=bindE Y
  refine Rn.c0 (cK func37) (m_point_Check_sim (Z0:=All) e31 (show T_api_Point.rep.rel All _ _ _ from ⟨_,_,rfl,⟨rfl,trivial⟩,⟨_,_,rfl,⟨_,_,rfl,(own_slR (D29.get 1 rfl)).1,(own_slR (D29.get 1 rfl)).2.1,(own_slR (D29.get 1 rfl)).2.2⟩,⟨_,_,rfl,⟨rfl,trivial⟩,⟨_,_,rfl,⟨rfl,trivial⟩,⟨_,_,rfl,⟨rfl,trivial⟩,⟨_,_,rfl,⟨rfl,trivial⟩,⟨_,_,rfl,⟨rfl,trivial⟩,⟨_,_,rfl,⟨rfl,trivial⟩,⟨_,_,rfl,⟨rfl,trivial⟩,⟨_,_,rfl,⟨rfl,trivial⟩,⟨_,_,rfl,⟨_,_,rfl,⟨rfl,trivial⟩,⟨_,_,rfl,⟨rfl,trivial⟩,⟨_,_,rfl,⟨_,_,rfl,⟨rfl,trivial⟩,⟨none,0,rfl,Nat.le_refl _,Nat.zero_le _,Sl.nil _ _ _ _⟩⟩,⟨_,_,rfl,⟨rfl,trivial⟩,⟨none,0,rfl,Nat.le_refl _,Nat.zero_le _,Sl.nil _ _ _ _⟩⟩⟩⟩⟩,⟨rfl,trivial⟩⟩⟩⟩⟩⟩⟩⟩⟩⟩⟩⟩) :) D29 λw31 _ D32=>?_
  refine gg 2 rfl ?_;refine aD Y (λh33 Y=>?_) (λh33 Y=>?_)
  ·cases Y
  refine gg 3 rfl (Rn.q rfl (V.ldBA [_,_,_,_,_,_,_,_,_,_,_,_,_,_,_,_,_] V65 O65 rfl (D32.get 2 rfl) rfl rfl) (Rn.sq rfl O65 rfl rfl (D32.get 0 rfl) ?_));intro w34 m34 x34;have D35:=(D32.st 0 rfl x34 m34).nf [boxR _ _ [_,_,_,_,_,_,_,_,_,_,_,_,_,_,_,_,_],_,_,_] rfl;refine gg 2 rfl ?_;have D36:=D35.addNil 39 w64R;have D38:=D36.addNil 39 w64R;refine Rn.retG2 func53 rfl (rvC rfl V65 O65 (D35.get 0 rfl) rfl) (rvT rfl) ?_;obtain rfl:=someE Y;exact ⟨A6_1_0,c6_1_0,none,0,none,0,rfl,D38.pk [1,4,5]⟩
 intro j1 Y K1;refine askD Y (Rn.partD (t:=37) rfl) (λh40 Y=>?_) (λh40 Y=>?_)
 ·cases Y
 refine gg 1 rfl ?_;obtain ⟨z41,e41,Y⟩:=bindE Y;refine Rn.q rfl (V.idxSZ U9 rfl rfl e41) (Rn.q rfl (V.neq rfl rfl) (gg 1 rfl ?_));refine Rn.jR D0 Y (G:=Bool) [20] (λg=>[(2,pt b1 0),(5,Str (p4.2.1)),(7,Str (p6.1)),(8,.slice A6_1_0 (p6.2.1).length c6_1_0),(37,.bool false),(45,.bool (g))]) (λg=>[boxR b1 65 [Str (([]:List UInt8)),.slice none 0 0,iv 0,iv 0,.bool false,iv 0,iv 0,iv 0,u64v (0:UInt64),u64v (0:UInt64),iv 0,u64v (0:UInt64),iv 0,.slice none 0 0,iv 0,.slice none 0 0,iv 0],ownR 113 A6_1_0 c6_1_0 T_api_Pair.rep p6.2.1]) (λj g=>j g) ?_ ?_
 ·rintro y42 w43 D43 Y
  try dsimp only at Y
  refine gg 1 rfl ?_;exact K1 y42 _ _ sA (D43.pk [0,1]) Y
 intro j2 Y K2;refine askD Y (Rn.partD (t:=41) rfl) (λh44 Y=>?_) (λh44 Y=>?_)
 ·cases Y
 refine gg 4 rfl ?_;exact K2 false _ _ sA (D8.pk [0,1]) Y
theorem m_index_New_sim {x0:(List (List UInt8))} {r:(T_index_Index×Int×Int)} (Y:m_index_New x0=some r) (f0:(slR A0 c0 textR x0).H Z0 w) :
 Calls prog 28 #[.slice A0 (x0).length c0] w λx w'=>∃ F_0 b_0,x=.returned (.tuple #[pt b_0 0,iv r.2.1,iv r.2.2])∧Hp Z0 No w w' [T_index_Index.obj F_0 b_0 r.1]:=by
 obtain ⟨D0,D2,hc0⟩:=knA f0;refine eg func28 10 ?_;refine Rn.q rfl (V.lenV U33 rfl) (gg 2 rfl ?_);refine aD Y (λh3 Y=>?_) (λh3 Y=>?_)
 ·cases Y
 refine gg 3 rfl (Rn.mkMO kv113 3 (intR .i64) D2 rfl rfl rfl ?_);intro F4 b4 w4 D4;replace D4:=D4.nq;refine Rn.q rfl (V.bldS (cs:=[_,_]) st109 rfl rfl) (Rn.box rfl rfl rfl rfl rfl ?_);intro b6 w6 hb6 m6 e6;have D8:=(D4.addBox hb6 e6 m6).nf [_,_,boxR _ _ [_,_]] rfl;refine gg 4 rfl (Rn.mkMH v1 (intR .i64) D8 rfl rfl rfl ?_);intro b9 w9 D9;refine gg 6 rfl (Rn.q rfl (V.lenV U33 rfl) (gg 2 rfl ?_));have D11:=D9.addNil 9 textR;have D14:=D11.cu [0,3] [2,4,1];obtain ⟨F13,D13⟩:=D14.fold (T_index_Index.sh b6 (⟨([]:List (List UInt8)),([]:Ko T_api_Pair Int)⟩:T_index_Index)) ⟨none,0,F4,b4,rfl⟩;refine Rn.jG D0 Y (G:=T_index_Index×(Nat→Prop)) (λg=>[(5,pt b6 0)]) (λg=>[T_index_Index.obj (g.2) b6 (g.1)]) (λj g=>j g.1) ?_ ?_
 ·rintro ⟨y15,F15⟩ w16 D16 Y
  try dsimp only at Y
  refine gg 7 rfl ?_;refine Rn.retG3 func28 rfl (rvT rfl) (rvT rfl) (rvT rfl) ?_;obtain rfl:=someE Y;exact ⟨F15,b6,rfl,D16.pk [0]⟩
 intro j1 Y K1;refine gg 1 rfl ?_;refine Rn.loopF (G:=Int×(Kv Int)×T_index_Index×(Nat→Prop)) (λg=>[(5,pt b6 0),(6,.map (some b9)),(20,.slice A0 (x0).length c0),(21,iv (x0.length:Int)),(22,iv (g.1))]) (λg w'=>Hp Z0 No w w' [slR A0 c0 textR x0,mapR b9 v1 (intR .i64) (g.2.1),T_index_Index.obj (g.2.2.2) b6 (g.2.2.1)]) (λn g=>m_index_New_L1 x0 j1 n g.1 g.2.1 g.2.2.1) fuel (0,([]:Kv Int),(⟨([]:List (List UInt8)),([]:Ko T_api_Pair Int)⟩:T_index_Index),F13) sA (D13.pk [0,1,2]) Y (λ_=>rfl) ?_;clear Y;rintro m20 ⟨y17,y18,y19,F19⟩ w20 D20 Y N20;replace Y:m_index_New_L1 x0 j1 (m20+1) y17 y18 y19=some r:=Y;rw [m_index_New_L1] at Y;refine gg 5 rfl ?_;refine bD Y 6 1 (λh21 Y=>?_) (λh21 Y=>?_)
 ·obtain ⟨z22,e22,Y⟩:=bindE Y;refine Rn.ixH D20 0 rfl e22 rfl rfl rfl U33 O9 rfl rfl rfl rfl ?_;rintro b22 o22 vs22 ⟨rfl,_⟩ D22;refine Rn.q rfl (V.ldR0 V9 rfl (D22.get 3 rfl).2 rfl) (gg 6 rfl ?_);obtain ⟨p24,e24,Y⟩:=bindE Y;refine Rn.cq (cK func53) (m_chunk_Series_sim (Z0:=All) e24  :) ?_;rintro _ w24 ⟨A24_0_0,c24_0_0,A24_0_1,c24_0_1,A24_0_2,c24_0_2,rfl,Q24⟩;refine ⟨_,rfl,?_⟩;have D28:=D22.callF (flC (ownR_flat T_api_Pair.flat _ _ _ _) (flC (ownR_flat w64_flat _ _ _ _) (flC (ownR_flat w64_flat _ _ _ _) fl0))) Q24;refine gg 3 rfl (Rn.als rfl rfl rfl Tryz.zeroValue65 rfl O65 rfl rfl rfl rfl (by first|exact ones rfl|(simp [Value.oneCell'];done)) ?_);intro b29 w29 hb29 m29 e29;have D31:=(D28.addBox hb29 e29 m29).nf [_,_,_,_,_,_,_,boxR _ _ [_,_,_,_,_,_,_,_,_,_,_,_,_,_,_,_,_]] rfl;refine gg 8 rfl ?_;refine Rn.jR D0 Y (G:=Bool×(Nat→Prop)) [] (λg=>[(5,pt b6 0),(6,.map (some b9)),(7,iv y17),(8,Str (z22)),(9,pt b29 0),(10,iv p24.2),(20,.slice A0 (x0).length c0),(21,iv (x0.length:Int)),(22,iv y17),(39,.bool ((g.1)))]) (λg=>[slR A0 c0 textR x0,mapR b9 v1 (intR .i64) y18,T_index_Index.obj (g.2) b6 y19,ownR 113 A24_0_0 c24_0_0 T_api_Pair.rep p24.1.Attrs,ownR 39 A24_0_1 c24_0_1 w64R p24.1.Hist.Pos.Counts,ownR 39 A24_0_2 c24_0_2 w64R p24.1.Hist.Neg.Counts,boxR b29 65 [Str (p24.1.Name),.slice A24_0_0 (p24.1.Attrs).length c24_0_0,iv p24.1.Kind,iv p24.1.Temp,.bool (p24.1.Mono),iv p24.1.Start,iv p24.1.Time,iv p24.1.Int_,u64v p24.1.Re,u64v p24.1.Im,iv p24.1.Hist.Scale,u64v p24.1.Hist.Zero,iv p24.1.Hist.Pos.Offset,.slice A24_0_1 (p24.1.Hist.Pos.Counts).length c24_0_1,iv p24.1.Hist.Neg.Offset,.slice A24_0_2 (p24.1.Hist.Neg.Counts).length c24_0_2,iv p24.1.Flags]]) (λj g=>j g.1) ?_ ?_
  ·rintro ⟨y33,F32⟩ w34 D34 Y
   try dsimp only at Y
   refine gg 1 rfl ?_;refine aS Y (λh35 Y=>?_) (λh35 Y=>?_)
   ·cases Y
   refine gg 7 rfl ?_;refine aD Y (λh36 Y=>?_) (λh36 Y=>?_)
   ·cases Y
   refine gg 5 rfl ?_;obtain ⟨vs37,hl37,hr37⟩:=Map.lkp (D34.get 1 rfl) z22 (zs:=[iv 0]) (zm:=(0:Int)) (show (intR .i64).rel _ _ _ _ from ⟨rfl,trivial⟩);obtain ⟨rfl,_⟩:=hr37;refine Rn.q rfl (V.lkpH hl37 U92 U9 Tryz.zeroValue3 rfl rfl) (gg 1 rfl (Rn.muH (v:=W64 (((lookP z22 y18).getD 0)+1)) (vs:=[iv (W64 (((lookP z22 y18).getD 0)+1))]) D34 1 rfl rfl rfl U92 U9 rfl rfl rfl (⟨rfl,trivial⟩) ?_));intro w38 D38;refine gg 7 rfl ?_;obtain ⟨_,⟨A39_0,c39_0,F39_1,m39_1,rfl⟩,D39⟩:=D38.unf 2 rfl;replace D39:=D39.nq;refine Rn.q rfl (V.ldB V33 rfl (D39.get 6 rfl) rfl) (gg 1 rfl ?_);obtain ⟨z42,e42,Y⟩:=bindE Y;refine Rn.pushH (z:=z22) (vs:=[Str (z22)]) D39 7 rfl e42 rfl rfl rfl rfl U33 el9 rfl rfl rfl rfl (λ_=>rfl) (⟨rfl,trivial⟩) ?_;intro A42 c42 w42 u42 D42;replace D42:=D42.nq;refine gg 2 rfl (Rn.sq rfl O33 rfl rfl (D42.get 6 rfl) ?_);intro w44 m44 x44;have D45:=(D42.st 6 rfl x44 m44).nf [_,_,_,_,_,_,boxR _ _ [_,_],_,_] rfl;refine gg 4 rfl (Rn.q rfl (V.ldB V63 rfl (D45.get 5 rfl) rfl) (gg 1 rfl (Rn.q rfl (V.ldB V9 rfl (D45.get 5 rfl) rfl) (Rn.q rfl (V.bldS (cs:=[_,_]) st113 rfl rfl) ?_))));obtain ⟨z46,e46,Y⟩:=bindE Y;refine Rn.pushH (z:=(⟨([]:List UInt8),p24.1.Name⟩:T_api_Pair)) (vs:=[Str (([]:List UInt8)),Str (p24.1.Name)]) D45 2 rfl e46 rfl rfl rfl rfl U63 el113 rfl rfl rfl rfl (λ_=>rfl) (⟨_,_,rfl,⟨rfl,trivial⟩,⟨rfl,trivial⟩⟩) ?_;intro A46 c46 w46 u46 D46;replace D46:=D46.nq;refine Rn.q rfl (V.lenV U63 rfl) (gg 2 rfl ?_);have D49:=D46.cu [0,1,2,3,4,5] [6,7,8];obtain ⟨F48,D48⟩:=D49.fold (T_index_Index.sh b6 (⟨z42,y19.rows⟩:T_index_Index)) ⟨A42,c42,F39_1,m39_1,rfl⟩;refine Rn.jG D0 Y (G:=T_index_Index×(Nat→Prop)) (λg=>[(5,pt b6 0),(6,.map (some b9)),(20,.slice A0 (x0).length c0),(21,iv (x0.length:Int)),(22,iv y17)]) (λg=>[slR A0 c0 textR x0,mapR b9 v1 (intR .i64) (putP z22 (W64 (((lookP z22 y18).getD 0)+1)) y18),ownR 113 A46 c46 T_api_Pair.rep z46,ownR 39 A24_0_1 c24_0_1 w64R p24.1.Hist.Pos.Counts,ownR 39 A24_0_2 c24_0_2 w64R p24.1.Hist.Neg.Counts,boxR b29 65 [Str (p24.1.Name),.slice A24_0_0 (p24.1.Attrs).length c24_0_0,iv p24.1.Kind,iv p24.1.Temp,.bool (p24.1.Mono),iv p24.1.Start,iv p24.1.Time,iv p24.1.Int_,u64v p24.1.Re,u64v p24.1.Im,iv p24.1.Hist.Scale,u64v p24.1.Hist.Zero,iv p24.1.Hist.Pos.Offset,.slice A24_0_1 (p24.1.Hist.Pos.Counts).length c24_0_1,iv p24.1.Hist.Neg.Offset,.slice A24_0_2 (p24.1.Hist.Neg.Counts).length c24_0_2,iv p24.1.Flags],T_index_Index.obj (g.2) b6 (g.1)]) (λj g=>j g.1) ?_ ?_
   ·rintro ⟨y50,F50⟩ w51 D51 Y
    try dsimp only at Y
    refine gg 5 rfl ?_;exact N20 ((W64 (y17+1)),(putP z22 (W64 (((lookP z22 y18).getD 0)+1)) y18),y50,F50) _ _ sA (D51.pk [0,1,6]) Y
   intro j3 Y K3;refine gg 1 rfl ?_;refine Rn.loopF (G:=Int×T_index_Index×(Nat→Prop)) (λg=>[(5,pt b6 0),(6,.map (some b9)),(7,iv y17),(20,.slice A0 (x0).length c0),(21,iv (x0.length:Int)),(22,iv y17),(64,.slice A46 (z46).length c46),(65,iv (z46.length:Int)),(66,iv (g.1))]) (λg w'=>Hp Z0 No w w' [slR A0 c0 textR x0,mapR b9 v1 (intR .i64) (putP z22 (W64 (((lookP z22 y18).getD 0)+1)) y18),ownR 113 A46 c46 T_api_Pair.rep z46,ownR 39 A24_0_1 c24_0_1 w64R p24.1.Hist.Pos.Counts,ownR 39 A24_0_2 c24_0_2 w64R p24.1.Hist.Neg.Counts,boxR b29 65 [Str (p24.1.Name),.slice A24_0_0 (p24.1.Attrs).length c24_0_0,iv p24.1.Kind,iv p24.1.Temp,.bool (p24.1.Mono),iv p24.1.Start,iv p24.1.Time,iv p24.1.Int_,u64v p24.1.Re,u64v p24.1.Im,iv p24.1.Hist.Scale,u64v p24.1.Hist.Zero,iv p24.1.Hist.Pos.Offset,.slice A24_0_1 (p24.1.Hist.Pos.Counts).length c24_0_1,iv p24.1.Hist.Neg.Offset,.slice A24_0_2 (p24.1.Hist.Neg.Counts).length c24_0_2,iv p24.1.Flags],T_index_Index.obj (g.2.2) b6 (g.2.1)]) (λn g=>m_index_New_L2 y17 z46 j3 n g.1 g.2.1) fuel (0,(⟨z42,y19.rows⟩:T_index_Index),F48) sA (D48.pk [0,1,2,3,4,5,6]) Y (λ_=>rfl) ?_;clear Y;rintro m54 ⟨y52,y53,F53⟩ w54 D54 Y N54;replace Y:m_index_New_L2 y17 z46 j3 (m54+1) y52 y53=some r:=Y;rw [m_index_New_L2] at Y;refine gg 5 rfl ?_;refine bD Y 5 1 (λh55 Y=>?_) (λh55 Y=>?_)
   ·obtain ⟨z56,e56,Y⟩:=bindE Y;obtain ⟨kk56,ke56,kz56,kl56⟩:=idxE e56;obtain ⟨g56,vs56,hA56,hR56,hrel56⟩:=D54.ownAt 2 rfl kz56;subst hA56;obtain rfl:=T_api_Pair.relE hrel56;refine Rn.q rfl (V.ixE kk56 U63 O113 rfl rfl ke56 kl56) (Rn.q rfl (V.ldA (vs:=[_,_]) V113 O113 rfl (Rd.pre hR56 2) rfl) (Rn.als rfl rfl rfl Tryz.zeroValue113 rfl O113 rfl rfl rfl rfl (by first|exact ones rfl|(simp [Value.oneCell'];done)) ?_));intro b57 w57 hb57 m57 e57;have D59:=(D54.addBox hb57 e57 m57).nf [_,_,_,_,_,_,_,boxR _ _ [_,_]] rfl;refine gg 1 rfl ?_;refine Rn.drawJ 7 rfl D59 (by kernel_rfl) ?_;intro w60 D60;refine dq [0,1,2] ?_;obtain ⟨_,⟨A61_0,c61_0,F61_1,m61_1,rfl⟩,D61⟩:=D60.unf 6 rfl;replace D61:=D61.nq;refine RH.tk 3 rfl (λw' hDr=>V.ldB V107 rfl ((D61.ext hDr).get 7 rfl) rfl) ?_;refine RH.tk 4 rfl (λw' hDr=>V.ldBA [_,_] V113 O113 rfl ((D61.ext hDr).get 6 rfl) rfl rfl) ?_;refine dq [5] ?_;refine RH.bslS 6 (by kernel_rfl) rfl rfl rfl U76 el3 rfl rfl rfl rfl (by first|exact szs rfl|(simp [Value.cells];done)) (by decide) ?_;intro b64 w64 hb64 m64 e64;have D65:=D61.addLit (rep:=(intR .i64)) (xs:=([y17]:List Int)) (vss:=[[iv y17]]) hb64 e64 m64 rfl rfl rfl ((rels_cons (λ_ _=>⟨rfl,trivial⟩) rels0));refine ⟨((Ext.refl _).trans e64),?_⟩;refine RG.tailK (by kernel_rfl) ?_;have D68:=D65.cu [0,1,2,3,4,5,6,7,8,10] [9];refine RH.meTake 7 (by kernel_rfl) D68 kk113 z56 rfl rfl rfl U107 Tryz.zeroValue76 rfl rfl ?_;intro A67 c67 u67 F67 w67 D67;replace D67:=D67.nq;refine ⟨trivial,?_⟩;refine dq [8,10] ?_;obtain ⟨z70,e70,Y⟩:=bindE Y;refine RH.appH 9 (by kernel_rfl) D67 10 rfl e70 rfl rfl rfl U76 el3 rfl rfl rfl rfl (D67.srcO 9 rfl) ?_;intro A70 c70 w70 D70;replace D70:=D70.nq;refine ⟨trivial,?_⟩;have D73:=D70.cu [0,1,2,3,4,5,6,7,8,9] [10,11];refine RH.mePut 11 (by kernel_rfl) D73 rfl rfl rfl rfl rfl ?_;intro F72 w72 D72;replace D72:=D72.nq;refine ⟨trivial,?_⟩;refine RH.dn ?_;refine gg 5 rfl ?_;have D75:=D72.cu [0,1,2,3,4,5,6,9] [7,8,10];obtain ⟨F74,D74⟩:=D75.fold (T_index_Index.sh b6 (⟨y53.keys,(putO z56 z70 y53.rows)⟩:T_index_Index)) ⟨A61_0,c61_0,F72,m61_1,rfl⟩;exact N54 ((W64 (y52+1)),(⟨y53.keys,(putO z56 z70 y53.rows)⟩:T_index_Index),F74) _ _ sA (D74.pk [0,1,2,3,4,5,8]) Y
   exact K3 (y53,F53) _ _ sA (D54.pk [0,1,2,3,4,5,6]) Y
  intro j2 Y K2;refine askD Y (Rn.partD (t:=34) rfl) (λh76 Y=>?_) (λh76 Y=>?_)
  ·refine gg 2 rfl ?_;obtain ⟨vs77,hl77,hr77⟩:=Map.lkp (D31.get 1 rfl) z22 (zs:=[iv 0]) (zm:=(0:Int)) (show (intR .i64).rel _ _ _ _ from ⟨rfl,trivial⟩);obtain ⟨rfl,_⟩:=hr77;refine Rn.q rfl (V.lkpH hl77 U92 U9 Tryz.zeroValue3 rfl rfl) (gg 2 rfl ?_);exact K2 ((decide (((lookP z22 y18).getD 0)>0)),F19) _ _ sA (D31.pk [0,1,2,4,5,6,7]) Y
  cases Y
 exact K1 (y19,F19) _ _ sA (D20.pk [2]) Y
theorem m_index_Index_all_sim {x0:T_index_Index} {r:(List Int)} (Y:m_index_Index_all x0=some r) (f0:(fzR (T_index_Index.obj F0 b0 x0)).H Z0 w) :
 Calls prog 56 #[pt b0 0] w λx w'=>∃ A_0_0 c_0_0,x=.returned (.slice A_0_0 (r).length c_0_0)∧Hp Z0 No w w' [ownR 3 A_0_0 c_0_0 (intR .i64) r]:=by
 obtain ⟨D0,D2,hc0⟩:=knA f0;refine eg func56 9 ?_;obtain ⟨_,⟨A3_0,c3_0,F3_1,m3_1,rfl⟩,D3⟩:=D2.unfz 0 rfl;replace D3:=D3.nq;have D8:=D3.fzSl 2 rfl;refine Rn.q rfl (V.ldB V33 rfl (D8.getz 1 rfl) rfl) (Rn.q rfl (V.lenV U33 rfl) ?_);obtain ⟨z9,e9,Y⟩:=bindE Y;refine Rn.mkSlH (rep:=(intR .i64)) D8 e9 rfl rfl rfl U76 el3 rfl (zs:=[iv 0]) (by kernel_rfl) rfl rfl (λ_ _=>⟨rfl,trivial⟩) ?_;intro b9 w9 D9;refine gg 6 rfl (Rn.q rfl (V.lenV U76 rfl) (gg 2 rfl ?_));obtain ⟨j1,hj1,Y⟩:=jnE Y;refine Rn.joinG (r:=r) (G:=(List Int)) (λg=>[(3,.slice (some ⟨b9,0,none⟩) (z9).length (z9).length)]) (λg w'=>Hp Z0 No w w' [ownR 3 (some ⟨b9,0,none⟩) (z9).length (intR .i64) g]∧g.length=(z9).length) (λg=>j1 g) ?_ ?_
 ·subst hj1;clear Y;rintro y11 w12 ⟨D12,hl11⟩ Y;replace hl11:y11.length=(z9).length:=hl11
  try dsimp only at Y
  refine gg 5 rfl ?_;refine Rn.say (t:=2) (.slice (some ⟨b9,0,none⟩) (y11).length (z9).length) rfl (congrArg (λ(n0:Nat)=>Value.slice (some ⟨b9,0,none⟩) n0 (z9).length) (show (z9).length=(y11).length from (hl11).symm.trans (rfl))) ?_
  cases Y
  exact Rn.R1 func56 ⟨(some ⟨b9,0,none⟩),(z9).length,rfl,D12.pk [0]⟩
 intro K1;clear hj1;refine gg 1 rfl ?_;refine Rn.loopF (G:=(List Int)×Int) (λg=>[(3,.slice (some ⟨b9,0,none⟩) (z9).length (z9).length),(12,iv (z9.length:Int)),(13,iv (g.2))]) (λg w'=>Hp Z0 No w w' [ownR 3 (some ⟨b9,0,none⟩) (z9).length (intR .i64) (g.1)]∧(g.1).length=(z9).length) (λn g=>m_index_Index_all_L1 z9 j1 n g.1 g.2) fuel (z9,0) sA (⟨D9.pk [5],rfl⟩) Y (λ_=>rfl) ?_;clear Y;rintro m15 ⟨y13,y14⟩ w15 ⟨D15,hl13⟩ Y N15;replace hl13:y13.length=(z9).length:=hl13;replace Y:m_index_Index_all_L1 z9 j1 (m15+1) y13 y14=some r:=Y;rw [m_index_Index_all_L1] at Y;refine gg 5 rfl ?_;refine bD Y 12 1 (λh16 Y=>?_) (λh16 Y=>?_)
 ·obtain ⟨z17,e17,Y⟩:=bindE Y;obtain ⟨kk17,ke17,kz17,kl17⟩:=idxE e17;obtain ⟨vs17,hR17,hrel17⟩:=D15.ownAtL 0 rfl kz17;obtain ⟨rfl,_⟩:=hrel17;refine Rn.q rfl (V.ixE kk17 U76 O3 rfl rfl ke17 (Nat.lt_of_lt_of_eq kl17 hl13)) (Rn.stI D15 0 rfl ke17 kl17 rfl rfl O3 rfl rfl rfl (vs:=[iv y14]) rfl (⟨rfl,trivial⟩) ?_);intro w18 D18;refine gg 6 rfl ?_;exact N15 ((setI y13 y14 y14),(W64 (y14+1))) _ _ sA (⟨D18.pk [0],((length_setI _ _ _).trans hl13)⟩) Y
 exact K1 y13 _ _ sA (⟨D15.pk [0],hl13⟩) Y
theorem m_index_Index_Select_sim {x0:T_index_Index} {x1:(List T_api_Match)} {r:((List Int)×Int×Int)} (Y:m_index_Index_Select x0 x1=some r) (f0:(fzR (T_index_Index.obj F0 b0 x0)).H Z0 w) (f1:(slR A1 c1 T_api_Match.rep x1).H Z0 w) :
 Calls prog 29 #[pt b0 0,.slice A1 (x1).length c1] w λx w'=>∃ A_0_0 c_0_0,x=.returned (.tuple #[.slice A_0_0 (r.1).length c_0_0,iv r.2.1,iv r.2.2])∧Hp Z0 No w w' [ownR 3 A_0_0 c_0_0 (intR .i64) r.1]:=by
 obtain ⟨D0,D3,hc0⟩:=knA f0;obtain ⟨D4,hc0⟩:=D3.kn hc0 f1;refine eg func29 14 ?_;refine Rn.q rfl (V.lenV U23 rfl) (gg 2 rfl ?_);refine Rn.jG D0 Y (G:=(List T_glob_Glob)×(Nat→Prop)×Option Addr×Nat) (λg=>[(0,pt b0 0),(1,.slice A1 (x1).length c1),(7,.slice (g.2.2.1) ((g.1)).length (g.2.2.2))]) (λg=>[fzR (T_index_Index.obj F0 b0 x0),slR A1 c1 T_api_Match.rep x1,plR (g.2.1) 115 (g.2.2.1) (g.2.2.2) T_glob_Glob.obj (g.1)]) (λj g=>j g.1) ?_ ?_
 ·rintro ⟨y5,F6,A6,c6⟩ w8 D8 Y
  try dsimp only at Y
  refine gg 3 rfl ?_;obtain ⟨p9,e9,Y⟩:=bindE Y
  refine Rn.c2 (cK func56) (m_index_Index_all_sim (Z0:=All) e9 (fz_fz (D8.get 0 rfl)) :) λA9_0_0 c9_0_0 w9 Q9=>?_
  have D11:=D8.callF (flC (ownR_flat (int_flat _) _ _ _ _) fl0) Q9;refine gg 6 rfl (Rn.q rfl (V.lenV U23 rfl) (gg 2 rfl ?_));refine Rn.jG D0 Y (G:=(List Int)×Option Addr×Nat) (λg=>[(13,.slice (g.2.1) ((g.1)).length (g.2.2))]) (λg=>[ownR 3 (g.2.1) (g.2.2) (intR .i64) (g.1)]) (λj g=>j g.1) ?_ ?_
  ·rintro ⟨y12,A13,c13⟩ w15 D15 Y
   try dsimp only at Y
   refine gg 7 rfl ?_;refine Rn.retG3 func29 rfl (rvT rfl) (rvT rfl) (rvT rfl) ?_;obtain rfl:=someE Y;exact ⟨A13,c13,rfl,D15.pk [0]⟩
  intro j2 Y K2;refine gg 1 rfl ?_;have D17:=D11.frz 2 rfl;replace D17:=D17.nq;refine Rn.loopF (G:=(List Int)×Int×Option Addr×Nat) (λg=>[(0,pt b0 0),(7,.slice A6 (y5).length c6),(13,.slice (g.2.2.1) ((g.1)).length (g.2.2.2)),(54,.slice A1 (x1).length c1),(55,iv (x1.length:Int)),(56,iv (g.2.1))]) (λg w'=>Hp Z0 No w w' [fzR (T_index_Index.obj F0 b0 x0),slR A1 c1 T_api_Match.rep x1,fzR (plR F6 115 A6 c6 T_glob_Glob.obj y5),ownR 3 (g.2.2.1) (g.2.2.2) (intR .i64) (g.1)]) (λn g=>m_index_Index_Select_L1 x1 j2 n g.1 g.2.1) fuel (p9,0,A9_0_0,c9_0_0) sA (D17.pk [0,1,2,3]) Y (λ_=>rfl) ?_;clear Y;rintro m22 ⟨y18,y21,A19,c19⟩ w22 D22 Y N22;replace Y:m_index_Index_Select_L1 x1 j2 (m22+1) y18 y21=some r:=Y;rw [m_index_Index_Select_L1] at Y;refine gg 5 rfl ?_;refine aD Y (λh23 Y=>?_) (λh23 Y=>?_)
  ·cases Y
  refine gg 1 rfl ?_;exact K2 (y18,A19,c19) _ _ sA (D22.pk [3]) Y
 intro j1 Y K1;refine gg 1 rfl ?_;obtain ⟨F28,D28⟩:=D4.plNil 115 T_glob_Glob.obj;replace D28:=D28.nq;refine Rn.loopF (G:=(List T_glob_Glob)×Int×(Nat→Prop)×Option Addr×Nat) (λg=>[(0,pt b0 0),(1,.slice A1 (x1).length c1),(7,.slice (g.2.2.2.1) ((g.1)).length (g.2.2.2.2)),(16,.slice A1 (x1).length c1),(17,iv (x1.length:Int)),(18,iv (g.2.1))]) (λg w'=>Hp Z0 No w w' [fzR (T_index_Index.obj F0 b0 x0),slR A1 c1 T_api_Match.rep x1,plR (g.2.2.1) 115 (g.2.2.2.1) (g.2.2.2.2) T_glob_Glob.obj (g.1)]) (λn g=>m_index_Index_Select_L2 x1 j1 n g.1 g.2.1) fuel (([]:List T_glob_Glob),0,F28,none,0) sA (D28.pk [0,1,2]) Y (λ_=>rfl) ?_;clear Y;rintro m30 ⟨y24,y27,F25,A25,c25⟩ w30 D30 Y N30;replace Y:m_index_Index_Select_L2 x1 j1 (m30+1) y24 y27=some r:=Y;rw [m_index_Index_Select_L2] at Y;refine gg 5 rfl ?_;refine aD Y (λh31 Y=>?_) (λh31 Y=>?_)
 ·cases Y
 refine gg 1 rfl ?_;exact K1 (y24,F25,A25,c25) _ _ sA (D30.pk [0,1,2]) Y
theorem m_slices_Clone_uint64_uint64_sim {x0:(List UInt64)} {r:(List UInt64)} (Y:m_slices_Clone_uint64_uint64 x0=some r) (f0:(slR A0 c0 w64R x0).H Z0 w) :
 Calls prog 137 #[.slice A0 (x0).length c0] w λx w'=>∃ A_0_0 c_0_0,x=.returned (.slice A_0_0 (r).length c_0_0)∧Hp Z0 No w w' [ownR 39 A_0_0 c_0_0 w64R r]:=by
 exact clone_137 w A0 c0 x0 f0 Y
theorem m_hist_Clone_sim {x0:T_api_Hist} {r:T_api_Hist} (Y:m_hist_Clone x0=some r) (h0:T_api_Hist.rep.rel Z0 w cs0 x0) :
 Calls prog 105 #[.agg cs0.toArray] w λx w'=>∃ A_0_0 c_0_0 A_0_1 c_0_1,x=.returned (.agg [iv r.Scale,u64v r.Zero,iv r.Pos.Offset,.slice A_0_0 (r.Pos.Counts).length c_0_0,iv r.Neg.Offset,.slice A_0_1 (r.Neg.Counts).length c_0_1].toArray)∧Hp Z0 No w w' [ownR 39 A_0_0 c_0_0 w64R r.Pos.Counts,ownR 39 A_0_1 c_0_1 w64R r.Neg.Counts]:=by
 have D0:=Hp.nil Z0 No w;have hc0:=Calm.nil;obtain ⟨Ar1,cr1,Ar3,cr3,rfl,fs1,fs3⟩:=T_api_Hist.relE h0;obtain ⟨D5,hc0⟩:=D0.kn (r:=slR Ar1 cr1 w64R x0.Pos.Counts) hc0 fs1;obtain ⟨D6,hc0⟩:=D5.kn (r:=slR Ar3 cr3 w64R x0.Neg.Counts) hc0 fs3;refine eg func105 2 ?_;refine Rn.box rfl rfl rfl rfl rfl ?_;intro b7 w7 hb7 m7 e7;have D9:=(D6.addBox hb7 e7 m7).nf [_,_,boxR _ _ [_,_,_,_,_,_]] rfl
 refine Rn.al D9 Tryz.zeroValue44 λb10 w10 D12=>?_
 replace D12:=D12.nf [_,_,_,boxR _ _ [_,_,_,_,_,_]] rfl;refine gg 2 rfl ?_;refine Rn.drawK 10 rfl D12 (by kernel_rfl) ?_;intro w13 D13;refine dq [0,1] ?_;refine RH.tk 2 rfl (λw' hDr=>V.ldB V40 rfl ((D13.ext hDr).get 2 rfl) rfl) ?_;refine dq [4,5] ?_;refine RH.tk 6 rfl (λw' hDr=>V.ldB V40 rfl ((D13.ext hDr).get 2 rfl) rfl) ?_;obtain ⟨p14,e14,Y⟩:=bindE Y;refine RH.cq (cK func137) 3 (m_slices_Clone_uint64_uint64_sim (Z0:=All) e14 (slR_all (D13.get 0 rfl)) :) ?_;rintro _ w14 ⟨A14_0_0,c14_0_0,rfl,Q14⟩;refine ⟨_,rfl,((Ext.refl _).trans Q14.fr),?_⟩;have D16:=D13.callF (flC (ownR_flat w64_flat _ _ _ _) fl0) Q14;refine dq [8,9] ?_;obtain ⟨p17,e17,Y⟩:=bindE Y;refine RH.cq (cK func137) 7 (m_slices_Clone_uint64_uint64_sim (Z0:=All) e17 (slR_all (D16.get 1 rfl)) :) ?_;rintro _ w17 ⟨A17_0_0,c17_0_0,rfl,Q17⟩;refine ⟨_,rfl,(((Ext.refl _).trans Q14.fr).trans Q17.fr),?_⟩;have D19:=D16.callF (flC (ownR_flat w64_flat _ _ _ _) fl0) Q17;refine RG.tailK (by kernel_rfl) ?_;refine RH.st 10 (by kernel_rfl) rfl rfl O40 rfl rfl rfl rfl (by first|exact ones rfl|(simp [Value.oneCell'];done)) (D19.get 2 rfl) (by first|exact nbl rfl|(simp;done)) ?_;intro w20 m20 x20;have D21:=(D19.st 2 rfl x20 m20).nf [_,_,boxR _ _ [_,_,_,_,_,_],_,_,_] rfl;refine ⟨trivial,?_⟩;refine dq [11,12] ?_;refine RH.st 13 (by kernel_rfl) rfl rfl O40 rfl rfl rfl rfl (by first|exact ones rfl|(simp [Value.oneCell'];done)) (D21.get 2 rfl) (by first|exact nbl rfl|(simp;done)) ?_;intro w22 m22 x22;have D23:=(D21.st 2 rfl x22 m22).nf [_,_,boxR _ _ [_,_,_,_,_,_],_,_,_] rfl;refine ⟨trivial,?_⟩;refine RH.dn ?_;refine gg 2 rfl (Rn.q rfl (V.ldBA [_,_,_,_,_,_] V44 O44 rfl (D23.get 2 rfl) rfl rfl) (Rn.sq rfl O44 rfl rfl (D23.get 3 rfl) ?_));intro w24 m24 x24;have D25:=(D23.st 3 rfl x24 m24).nf [_,_,_,boxR _ _ [_,_,_,_,_,_],_,_] rfl;refine gg 1 rfl ?_;refine Rn.retG1 func105 rfl (rvC rfl V44 O44 (D25.get 3 rfl) rfl) ?_;obtain rfl:=someE Y;exact ⟨A14_0_0,c14_0_0,A17_0_0,c17_0_0,rfl,D25.pk [4,5]⟩
theorem m_point_Clone_sim {x0:T_api_Point} {r:T_api_Point} (Y:m_point_Clone x0=some r) (h0:T_api_Point.rep.rel Z0 w cs0 x0) :
 Calls prog 61 #[.agg cs0.toArray] w λx w'=>∃ A_0_0 c_0_0 A_0_1 c_0_1 A_0_2 c_0_2,x=.returned (.agg [Str (r.Name),.slice A_0_0 (r.Attrs).length c_0_0,iv r.Kind,iv r.Temp,.bool (r.Mono),iv r.Start,iv r.Time,iv r.Int_,u64v r.Re,u64v r.Im,iv r.Hist.Scale,u64v r.Hist.Zero,iv r.Hist.Pos.Offset,.slice A_0_1 (r.Hist.Pos.Counts).length c_0_1,iv r.Hist.Neg.Offset,.slice A_0_2 (r.Hist.Neg.Counts).length c_0_2,iv r.Flags].toArray)∧Hp Z0 No w w' [ownR 113 A_0_0 c_0_0 T_api_Pair.rep r.Attrs,ownR 39 A_0_1 c_0_1 w64R r.Hist.Pos.Counts,ownR 39 A_0_2 c_0_2 w64R r.Hist.Neg.Counts]:=by
 have D0:=Hp.nil Z0 No w;have hc0:=Calm.nil;obtain ⟨Ar1,cr1,Ar3,cr3,Ar5,cr5,rfl,fs1,fs3,fs5⟩:=T_api_Point.relE h0;obtain ⟨D7,hc0⟩:=D0.kn (r:=slR Ar1 cr1 T_api_Pair.rep x0.Attrs) hc0 fs1;obtain ⟨D8,hc0⟩:=D7.kn (r:=slR Ar3 cr3 w64R x0.Hist.Pos.Counts) hc0 fs3;obtain ⟨D9,hc0⟩:=D8.kn (r:=slR Ar5 cr5 w64R x0.Hist.Neg.Counts) hc0 fs5;refine eg func61 2 ?_;refine Rn.box rfl rfl rfl rfl rfl ?_;intro b10 w10 hb10 m10 e10;have D12:=(D9.addBox hb10 e10 m10).nf [_,_,_,boxR _ _ [_,_,_,_,_,_,_,_,_,_,_,_,_,_,_,_,_]] rfl
 refine Rn.al D12 Tryz.zeroValue65 λb13 w13 D15=>?_
 replace D15:=D15.nf [_,_,_,_,boxR _ _ [_,_,_,_,_,_,_,_,_,_,_,_,_,_,_,_,_]] rfl;refine gg 4 rfl (Rn.q rfl (V.ldB V63 rfl (D15.get 3 rfl) rfl) ?_);obtain ⟨p16,e16,Y⟩:=bindE Y
 refine Rn.c2 (cK func63) (m_slices_Clone_api_Pair_api_Pair_sim (Z0:=All) e16 (slR_all (D15.get 0 rfl)) :) λA16_0_0 c16_0_0 w16 Q16=>?_
 have D18:=D15.callF (flC (ownR_flat T_api_Pair.flat _ _ _ _) fl0) Q16;refine gg 1 rfl (Rn.sq rfl O63 rfl rfl (D18.get 3 rfl) ?_);intro w19 m19 x19;have D20:=(D18.st 3 rfl x19 m19).nf [_,_,_,boxR _ _ [_,_,_,_,_,_,_,_,_,_,_,_,_,_,_,_,_],_,_] rfl;refine gg 4 rfl (Rn.q rfl (V.ldBA [_,_,_,_,_,_] V44 O44 rfl (D20.get 3 rfl) rfl rfl) ?_);obtain ⟨p21,e21,Y⟩:=bindE Y;refine Rn.cq (cK func105) (m_hist_Clone_sim (Z0:=All) e21 (show T_api_Hist.rep.rel All _ _ _ from ⟨_,_,rfl,⟨rfl,trivial⟩,⟨_,_,rfl,⟨rfl,trivial⟩,⟨_,_,rfl,⟨_,_,rfl,⟨rfl,trivial⟩,⟨_,_,rfl,(slR_all (D20.get 1 rfl)).1,(slR_all (D20.get 1 rfl)).2.1,(slR_all (D20.get 1 rfl)).2.2⟩⟩,⟨_,_,rfl,⟨rfl,trivial⟩,⟨_,_,rfl,(slR_all (D20.get 2 rfl)).1,(slR_all (D20.get 2 rfl)).2.1,(slR_all (D20.get 2 rfl)).2.2⟩⟩⟩⟩⟩) :) ?_;rintro _ w21 ⟨A21_0_0,c21_0_0,A21_0_1,c21_0_1,rfl,Q21⟩;refine ⟨_,rfl,?_⟩;have D24:=D20.callF (flC (ownR_flat w64_flat _ _ _ _) (flC (ownR_flat w64_flat _ _ _ _) fl0)) Q21;refine gg 1 rfl (Rn.sq rfl O44 rfl rfl (D24.get 3 rfl) ?_);intro w25 m25 x25;have D26:=(D24.st 3 rfl x25 m25).nf [_,_,_,boxR _ _ [_,_,_,_,_,_,_,_,_,_,_,_,_,_,_,_,_],_,_,_,_] rfl;refine gg 3 rfl (Rn.q rfl (V.ldBA [_,_,_,_,_,_,_,_,_,_,_,_,_,_,_,_,_] V65 O65 rfl (D26.get 3 rfl) rfl rfl) (Rn.sq rfl O65 rfl rfl (D26.get 4 rfl) ?_));intro w27 m27 x27;have D28:=(D26.st 4 rfl x27 m27).nf [_,_,_,_,boxR _ _ [_,_,_,_,_,_,_,_,_,_,_,_,_,_,_,_,_],_,_,_] rfl;refine gg 1 rfl ?_;refine Rn.retG1 func61 rfl (rvC rfl V65 O65 (D28.get 4 rfl) rfl) ?_;obtain rfl:=someE Y;exact ⟨A16_0_0,c16_0_0,A21_0_0,c21_0_0,A21_0_1,c21_0_1,rfl,D28.pk [5,6,7]⟩
theorem m_rollup_fits_sim {x0:T_api_Point} {x1:T_api_Point} {r:Int} (Y:m_rollup_fits x0 x1=some r) (h0:T_api_Point.rep.rel Z0 w cs0 x0) (h1:T_api_Point.rep.rel Z0 w cs1 x1) :
 Calls prog 106 #[.agg cs0.toArray,.agg cs1.toArray] w λx w'=>x=.returned (iv r)∧Hp Z0 No w w' []:=by
 have D0:=Hp.nil Z0 No w;have hc0:=Calm.nil;obtain ⟨Ar1,cr1,Ar3,cr3,Ar5,cr5,rfl,fs1,fs3,fs5⟩:=T_api_Point.relE h0;obtain ⟨D13,hc0⟩:=D0.kn (r:=slR Ar1 cr1 T_api_Pair.rep x0.Attrs) hc0 fs1;obtain ⟨D14,hc0⟩:=D13.kn (r:=slR Ar3 cr3 w64R x0.Hist.Pos.Counts) hc0 fs3;obtain ⟨D15,hc0⟩:=D14.kn (r:=slR Ar5 cr5 w64R x0.Hist.Neg.Counts) hc0 fs5;obtain ⟨Ar7,cr7,Ar9,cr9,Ar11,cr11,rfl,fs7,fs9,fs11⟩:=T_api_Point.relE h1;obtain ⟨D16,hc0⟩:=D15.kn (r:=slR Ar7 cr7 T_api_Pair.rep x1.Attrs) hc0 fs7;obtain ⟨D17,hc0⟩:=D16.kn (r:=slR Ar9 cr9 w64R x1.Hist.Pos.Counts) hc0 fs9;obtain ⟨D18,hc0⟩:=D17.kn (r:=slR Ar11 cr11 w64R x1.Hist.Neg.Counts) hc0 fs11;refine eg func106 2 ?_;refine Rn.box rfl rfl rfl rfl rfl ?_;intro b19 w19 hb19 m19 e19;have D21:=(D18.addBox hb19 e19 m19).nf [_,_,_,_,_,_,boxR _ _ [_,_,_,_,_,_,_,_,_,_,_,_,_,_,_,_,_]] rfl;refine Rn.box rfl rfl rfl rfl rfl ?_;intro b22 w22 hb22 m22 e22;have D24:=(D21.addBox hb22 e22 m22).nf [_,_,_,_,_,_,_,boxR _ _ [_,_,_,_,_,_,_,_,_,_,_,_,_,_,_,_,_]] rfl;refine gg 4 rfl (Rn.q rfl (V.ldBA [_,_,_,_,_,_,_,_,_,_,_,_,_,_,_,_,_] V65 O65 rfl (D24.get 6 rfl) rfl rfl) ?_);obtain ⟨p25,e25,Y⟩:=bindE Y
 refine Rn.c0 (cK func30) (m_point_Key_sim (Z0:=All) e25 (show T_api_Point.rep.rel All _ _ _ from ⟨_,_,rfl,⟨rfl,trivial⟩,⟨_,_,rfl,⟨_,_,rfl,(slR_all (D24.get 0 rfl)).1,(slR_all (D24.get 0 rfl)).2.1,(slR_all (D24.get 0 rfl)).2.2⟩,⟨_,_,rfl,⟨rfl,trivial⟩,⟨_,_,rfl,⟨rfl,trivial⟩,⟨_,_,rfl,⟨rfl,trivial⟩,⟨_,_,rfl,⟨rfl,trivial⟩,⟨_,_,rfl,⟨rfl,trivial⟩,⟨_,_,rfl,⟨rfl,trivial⟩,⟨_,_,rfl,⟨rfl,trivial⟩,⟨_,_,rfl,⟨rfl,trivial⟩,⟨_,_,rfl,⟨_,_,rfl,⟨rfl,trivial⟩,⟨_,_,rfl,⟨rfl,trivial⟩,⟨_,_,rfl,⟨_,_,rfl,⟨rfl,trivial⟩,⟨_,_,rfl,(slR_all (D24.get 1 rfl)).1,(slR_all (D24.get 1 rfl)).2.1,(slR_all (D24.get 1 rfl)).2.2⟩⟩,⟨_,_,rfl,⟨rfl,trivial⟩,⟨_,_,rfl,(slR_all (D24.get 2 rfl)).1,(slR_all (D24.get 2 rfl)).2.1,(slR_all (D24.get 2 rfl)).2.2⟩⟩⟩⟩⟩,⟨rfl,trivial⟩⟩⟩⟩⟩⟩⟩⟩⟩⟩⟩⟩) :) D24 λw25 _ D26=>?_
 refine gg 8 rfl (Rn.q rfl (V.ldBA [_,_,_,_,_,_,_,_,_,_,_,_,_,_,_,_,_] V65 O65 rfl (D26.get 7 rfl) rfl rfl) ?_);obtain ⟨p27,e27,Y⟩:=bindE Y
 refine Rn.c0 (cK func30) (m_point_Key_sim (Z0:=All) e27 (show T_api_Point.rep.rel All _ _ _ from ⟨_,_,rfl,⟨rfl,trivial⟩,⟨_,_,rfl,⟨_,_,rfl,(slR_all (D26.get 3 rfl)).1,(slR_all (D26.get 3 rfl)).2.1,(slR_all (D26.get 3 rfl)).2.2⟩,⟨_,_,rfl,⟨rfl,trivial⟩,⟨_,_,rfl,⟨rfl,trivial⟩,⟨_,_,rfl,⟨rfl,trivial⟩,⟨_,_,rfl,⟨rfl,trivial⟩,⟨_,_,rfl,⟨rfl,trivial⟩,⟨_,_,rfl,⟨rfl,trivial⟩,⟨_,_,rfl,⟨rfl,trivial⟩,⟨_,_,rfl,⟨rfl,trivial⟩,⟨_,_,rfl,⟨_,_,rfl,⟨rfl,trivial⟩,⟨_,_,rfl,⟨rfl,trivial⟩,⟨_,_,rfl,⟨_,_,rfl,⟨rfl,trivial⟩,⟨_,_,rfl,(slR_all (D26.get 4 rfl)).1,(slR_all (D26.get 4 rfl)).2.1,(slR_all (D26.get 4 rfl)).2.2⟩⟩,⟨_,_,rfl,⟨rfl,trivial⟩,⟨_,_,rfl,(slR_all (D26.get 5 rfl)).1,(slR_all (D26.get 5 rfl)).2.1,(slR_all (D26.get 5 rfl)).2.2⟩⟩⟩⟩⟩,⟨rfl,trivial⟩⟩⟩⟩⟩⟩⟩⟩⟩⟩⟩⟩) :) D26 λw27 _ D28=>?_
 refine gg 12 rfl (Rn.q rfl (V.neqS rfl rfl) (gg 2 rfl ?_));refine aD Y (λh29 Y=>?_) (λh29 Y=>?_)
 ·cases Y
 refine gg 3 rfl (Rn.q rfl (V.ldB V3 rfl (D28.get 7 rfl) rfl) (gg 1 rfl (Rn.q rfl (V.ldB V3 rfl (D28.get 6 rfl) rfl) (gg 3 rfl ?_))));refine aD Y (λh30 Y=>?_) (λh30 Y=>?_)
 ·cases Y
 refine gg 3 rfl (Rn.q rfl (V.ldB V3 rfl (D28.get 6 rfl) rfl) (gg 2 rfl ?_));refine Rn.cutR [10] [(39,.bool (decide ((x0.Temp=2)∧(x1.Start<x0.Time))))] (λK31=>?_) ?_
 ·refine Rn.partD (t:=33) rfl (λh32=>?_) (λh32=>?_)
  ·refine gg 1 rfl (Rn.q rfl (V.ldB V3 rfl (D28.get 7 rfl) rfl) (gg 1 rfl (Rn.q rfl (V.ldB V3 rfl (D28.get 6 rfl) rfl) (gg 2 rfl ?_))));exact K31 _ sA
  refine gg 6 rfl ?_;exact K31 _ sA
 refine gg 2 rfl ?_;refine aD Y (λh33 Y=>?_) (λh33 Y=>?_)
 ·cases Y
 refine gg 6 rfl ?_
 cases Y
 exact Rn.R1 func106 ⟨rfl,D28.pk []⟩
theorem m_rollup_values_sim {x0:T_api_Point} {x1:T_api_Point} {r:(Int×T_api_Point)} (Y:m_rollup_values x0 x1=some r) (hL:Lent Z0 w [T_api_Point.obj F0 b0 x0,relR T_api_Point.rep cs1 x1]) :
 Calls prog 138 #[pt b0 0,.agg cs1.toArray] w λx w'=>∃ F_p0,x=.returned (iv r.1)∧Hp Z0 (LS [T_api_Point.obj F0 b0 x0,relR T_api_Point.rep cs1 x1]) w w' [T_api_Point.obj F_p0 b0 r.2]:=by
 have D0:=hL.start;have h1:=D0.get 1 rfl;obtain ⟨Ar2,cr2,Ar4,cr4,Ar6,cr6,rfl,fs2,fs4,fs6⟩:=T_api_Point.relE h1;have D9:=Hp.knowL [slR Ar2 cr2 T_api_Pair.rep x1.Attrs,slR Ar4 cr4 w64R x1.Hist.Pos.Counts,slR Ar6 cr6 w64R x1.Hist.Neg.Counts] _ D0 (knC (λ_ h=>h) fs2 (knC (λ_ h=>h) fs4 (knC (λ_ h=>h) fs6 kn0)));refine eg func138 2 ?_;refine Rn.box rfl rfl rfl rfl rfl ?_;intro b10 w10 hb10 m10 e10;have D12:=(D9.addBox hb10 e10 m10).nf [_,_,_,_,_,boxR _ _ [_,_,_,_,_,_,_,_,_,_,_,_,_,_,_,_,_]] rfl;refine gg 8 rfl ?_;obtain ⟨_,⟨A13_0,c13_0,A13_1,c13_1,A13_2,c13_2,rfl⟩,D13⟩:=D12.unf 0 rfl;replace D13:=D13.nq;refine Rn.q rfl (V.ldB V3 rfl (D13.get 5 rfl) rfl) (gg 7 rfl ?_);refine aD Y (λh17 Y=>?_) (λh17 Y=>?_)
 ·refine gg 1 rfl ?_;refine Rn.drawP rfl D13 ?_;intro w18 D18;refine dq [0,1,2] ?_;refine RH.tp 3 rfl (V.ldB V3 rfl (D18.get 5 rfl) rfl) ?_;refine dq [4] ?_;refine RH.tp 5 rfl (V.ldB V3 rfl (D18.get 4 rfl) rfl) ?_;refine dq [6,7] ?_;refine RH.dn ?_;refine gg 4 rfl (Rn.q rfl (V.ldB V3 rfl (D18.get 4 rfl) rfl) (gg 2 rfl ?_));refine Rn.cutR [11,12,13,14,15,16,17,18,19,20,21,22,23] [(0,pt b0 0),(3,pt b10 0),(5,iv (W64 (x0.Int_+x1.Int_))),(31,.bool (decide ((x1.Int_>0)∧(W64 (x0.Int_+x1.Int_)<x0.Int_))))] (λK19=>?_) ?_
  ·refine Rn.partD (t:=24) rfl (λh20=>?_) (λh20=>?_)
   ·refine gg 4 rfl (Rn.q rfl (V.ldB V3 rfl (D18.get 5 rfl) rfl) (gg 2 rfl ?_));exact K19 _ sA
   refine gg 7 rfl ?_;exact K19 _ sA
  refine gg 1 rfl ?_;refine Rn.cutR [] [(0,pt b0 0),(5,iv (W64 (x0.Int_+x1.Int_))),(44,.bool (decide (((x1.Int_>0)∧(W64 (x0.Int_+x1.Int_)<x0.Int_))∨((x1.Int_<0)∧(W64 (x0.Int_+x1.Int_)>x0.Int_)))))] (λK21=>?_) ?_
  ·refine Rn.partD (t:=32) rfl (λh22=>?_) (λh22=>?_)
   ·refine gg 12 rfl ?_;exact K21 _ sA
   refine gg 1 rfl (Rn.q rfl (V.ldB V3 rfl (D18.get 4 rfl) rfl) (gg 2 rfl ?_));refine Rn.cutR [23] [(0,pt b0 0),(5,iv (W64 (x0.Int_+x1.Int_))),(32,.bool false),(43,.bool (decide ((x1.Int_<0)∧(W64 (x0.Int_+x1.Int_)>x0.Int_))))] (λK23=>?_) ?_
   ·refine Rn.partD (t:=36) rfl (λh24=>?_) (λh24=>?_)
    ·refine gg 4 rfl (Rn.q rfl (V.ldB V3 rfl (D18.get 5 rfl) rfl) (gg 2 rfl ?_));exact K23 _ sA
    refine gg 7 rfl ?_;exact K23 _ sA
   refine gg 1 rfl ?_;exact K21 _ sA
  refine gg 1 rfl ?_;refine aD Y (λh25 Y=>?_) (λh25 Y=>?_)
  ·cases Y
  refine gg 6 rfl (Rn.sq rfl O3 rfl rfl (D18.get 5 rfl) ?_);intro w26 m26 x26;have D27:=(D18.st 5 rfl x26 m26).nf [_,_,_,_,_,boxR _ _ [_,_,_,_,_,_,_,_,_,_,_,_,_,_,_,_,_],_,_,_] rfl;refine gg 6 rfl ?_;have D28:=D27.dup 7 rfl (λ_ h=>h);have D30:=D28.dup 8 rfl (λ_ h=>h);have D33:=D30.cu [0,1,2,3,4,7,8] [5,6,9,10];obtain ⟨F32,D32⟩:=D33.fold (T_api_Point.sh b0 (⟨x0.Name,x0.Attrs,x0.Kind,x0.Temp,x0.Mono,x0.Start,x0.Time,W64 (x0.Int_+x1.Int_),x0.Re,x0.Im,x0.Hist,x0.Flags⟩:T_api_Point)) ⟨A13_0,c13_0,A13_1,c13_1,A13_2,c13_2,rfl⟩
  cases Y
  exact Rn.R1 func138 ⟨F32,rfl,D32.pk [7]⟩
 cases Y
theorem m_rollup_join_sim {x0:T_api_Point} {x1:T_api_Point} {r:(T_api_Point×Int)} (Y:m_rollup_join x0 x1=some r) (h0:T_api_Point.rep.rel Z0 w cs0 x0) (h1:T_api_Point.rep.rel Z0 w cs1 x1) :
 Calls prog 107 #[.agg cs0.toArray,.agg cs1.toArray] w λx w'=>∃ A_0_0 c_0_0 A_0_1 c_0_1 A_0_2 c_0_2,x=.returned (.tuple #[.agg [Str (r.1.Name),.slice A_0_0 (r.1.Attrs).length c_0_0,iv r.1.Kind,iv r.1.Temp,.bool (r.1.Mono),iv r.1.Start,iv r.1.Time,iv r.1.Int_,u64v r.1.Re,u64v r.1.Im,iv r.1.Hist.Scale,u64v r.1.Hist.Zero,iv r.1.Hist.Pos.Offset,.slice A_0_1 (r.1.Hist.Pos.Counts).length c_0_1,iv r.1.Hist.Neg.Offset,.slice A_0_2 (r.1.Hist.Neg.Counts).length c_0_2,iv r.1.Flags].toArray,iv r.2])∧Hp Z0 No w w' [slR A_0_0 c_0_0 T_api_Pair.rep r.1.Attrs,slR A_0_1 c_0_1 w64R r.1.Hist.Pos.Counts,slR A_0_2 c_0_2 w64R r.1.Hist.Neg.Counts]:=by
 have D0:=Hp.nil Z0 No w;have hc0:=Calm.nil;obtain ⟨Ar1,cr1,Ar3,cr3,Ar5,cr5,rfl,fs1,fs3,fs5⟩:=T_api_Point.relE h0;obtain ⟨D13,hc0⟩:=D0.kn (r:=slR Ar1 cr1 T_api_Pair.rep x0.Attrs) hc0 fs1;obtain ⟨D14,hc0⟩:=D13.kn (r:=slR Ar3 cr3 w64R x0.Hist.Pos.Counts) hc0 fs3;obtain ⟨D15,hc0⟩:=D14.kn (r:=slR Ar5 cr5 w64R x0.Hist.Neg.Counts) hc0 fs5;obtain ⟨Ar7,cr7,Ar9,cr9,Ar11,cr11,rfl,fs7,fs9,fs11⟩:=T_api_Point.relE h1;obtain ⟨D16,hc0⟩:=D15.kn (r:=slR Ar7 cr7 T_api_Pair.rep x1.Attrs) hc0 fs7;obtain ⟨D17,hc0⟩:=D16.kn (r:=slR Ar9 cr9 w64R x1.Hist.Pos.Counts) hc0 fs9;obtain ⟨D18,hc0⟩:=D17.kn (r:=slR Ar11 cr11 w64R x1.Hist.Neg.Counts) hc0 fs11;refine eg func107 2 ?_;refine Rn.box rfl rfl rfl rfl rfl ?_;intro b19 w19 hb19 m19 e19;have D21:=(D18.addBox hb19 e19 m19).nf [_,_,_,_,_,_,boxR _ _ [_,_,_,_,_,_,_,_,_,_,_,_,_,_,_,_,_]] rfl;refine Rn.box rfl rfl rfl rfl rfl ?_;intro b22 w22 hb22 m22 e22;have D24:=(D21.addBox hb22 e22 m22).nf [_,_,_,_,_,_,_,boxR _ _ [_,_,_,_,_,_,_,_,_,_,_,_,_,_,_,_,_]] rfl
 refine Rn.al D24 Tryz.zeroValue65 λb25 w25 D27=>?_
 replace D27:=D27.nf [_,_,_,_,_,_,_,_,boxR _ _ [_,_,_,_,_,_,_,_,_,_,_,_,_,_,_,_,_]] rfl;refine gg 4 rfl (Rn.q rfl (V.ldBA [_,_,_,_,_,_,_,_,_,_,_,_,_,_,_,_,_] V65 O65 rfl (D27.get 7 rfl) rfl rfl) ?_);obtain ⟨p28,e28,Y⟩:=bindE Y;refine Rn.cq (cK func61) (m_point_Clone_sim (Z0:=All) e28 (show T_api_Point.rep.rel All _ _ _ from ⟨_,_,rfl,⟨rfl,trivial⟩,⟨_,_,rfl,⟨_,_,rfl,(slR_all (D27.get 3 rfl)).1,(slR_all (D27.get 3 rfl)).2.1,(slR_all (D27.get 3 rfl)).2.2⟩,⟨_,_,rfl,⟨rfl,trivial⟩,⟨_,_,rfl,⟨rfl,trivial⟩,⟨_,_,rfl,⟨rfl,trivial⟩,⟨_,_,rfl,⟨rfl,trivial⟩,⟨_,_,rfl,⟨rfl,trivial⟩,⟨_,_,rfl,⟨rfl,trivial⟩,⟨_,_,rfl,⟨rfl,trivial⟩,⟨_,_,rfl,⟨rfl,trivial⟩,⟨_,_,rfl,⟨_,_,rfl,⟨rfl,trivial⟩,⟨_,_,rfl,⟨rfl,trivial⟩,⟨_,_,rfl,⟨_,_,rfl,⟨rfl,trivial⟩,⟨_,_,rfl,(slR_all (D27.get 4 rfl)).1,(slR_all (D27.get 4 rfl)).2.1,(slR_all (D27.get 4 rfl)).2.2⟩⟩,⟨_,_,rfl,⟨rfl,trivial⟩,⟨_,_,rfl,(slR_all (D27.get 5 rfl)).1,(slR_all (D27.get 5 rfl)).2.1,(slR_all (D27.get 5 rfl)).2.2⟩⟩⟩⟩⟩,⟨rfl,trivial⟩⟩⟩⟩⟩⟩⟩⟩⟩⟩⟩⟩) :) ?_;rintro _ w28 ⟨A28_0_0,c28_0_0,A28_0_1,c28_0_1,A28_0_2,c28_0_2,rfl,Q28⟩;refine ⟨_,rfl,?_⟩;have D32:=D27.callF (flC (ownR_flat T_api_Pair.flat _ _ _ _) (flC (ownR_flat w64_flat _ _ _ _) (flC (ownR_flat w64_flat _ _ _ _) fl0))) Q28;replace D32:=D32.nq;refine Rn.als rfl rfl rfl Tryz.zeroValue65 rfl O65 rfl rfl rfl rfl (by first|exact ones rfl|(simp [Value.oneCell'];done)) ?_;intro b33 w33 hb33 m33 e33;have D35:=(D32.addBox hb33 e33 m33).nf [_,_,_,_,_,_,_,_,_,_,_,_,boxR _ _ [_,_,_,_,_,_,_,_,_,_,_,_,_,_,_,_,_]] rfl;refine gg 2 rfl ?_;have D38:=D35.freeze 10 rfl;have D39:=D38.dup 10 rfl (λ_ h=>h);have D42:=D39.freeze 11 rfl;have D43:=D42.dup 11 rfl (λ_ h=>h);have D46:=D43.cu [0,1,2,3,4,5,6,7,8,10,11] [12,9,13,14];obtain ⟨F45,D45⟩:=D46.fold (T_api_Point.sh b33 p28) ⟨A28_0_0,c28_0_0,A28_0_1,c28_0_1,A28_0_2,c28_0_2,rfl⟩;have D55:=(D45.cutF [6,7,8] [11] [0,1,2,3,4,5,9,10] rfl (by decide) ⟨λ_ h=>h,λ_ h=>h,λ_ h=>h,λ_ h=>h,λ_ h=>h,λ_ h=>h,λ_ h=>h,λ_ h=>h,trivial⟩).nf ([_,_,_,_,_,_,_,_,_,_,_]++[_,_,_,_,_,_,_,_,_]) rfl;refine Rn.drawF rfl D55 ?_;intro w56 hmo56 D56;refine dq [0] ?_;refine RH.tk 1 rfl (λw' hDr=>V.ldB V3 rfl ((hmo56.awayK hDr).get 0 rfl) rfl) ?_;refine dq [2] ?_;refine RH.tk 3 rfl (λw' hDr=>V.ldB V3 rfl ((hmo56.awayK hDr).get 0 rfl) rfl) ?_;refine dq [4] ?_;refine RH.tk 5 rfl (λw' hDr=>V.ldB V3 rfl ((hmo56.awayK hDr).get 1 rfl) rfl) ?_;refine RH.tk 6 rfl (λw' hDr=>V.orZ rfl rfl) ?_;refine dq [7] ?_;obtain ⟨_,⟨A57_0,c57_0,A57_1,c57_1,A57_2,c57_2,rfl⟩,D57⟩:=D56.unf 0 rfl;replace D57:=D57.nq;refine RH.st 8 (by kernel_rfl) rfl rfl O3 rfl rfl rfl rfl (by first|exact ones rfl|(simp [Value.oneCell'];done)) (D57.get 8 rfl) (by first|exact nbl rfl|(simp;done)) ?_;intro w61 m61 x61;have D62:=(D57.st 8 rfl x61 m61).nf [_,_,_,_,_,_,_,_,boxR _ _ [_,_,_,_,_,_,_,_,_,_,_,_,_,_,_,_,_],_,_,_] rfl;refine ⟨D62.fr,?_⟩;refine dq [9] ?_;refine RH.st 10 (by kernel_rfl) rfl rfl O3 rfl rfl rfl rfl (by first|exact ones rfl|(simp [Value.oneCell'];done)) (D62.get 8 rfl) (by first|exact nbl rfl|(simp;done)) ?_;intro w63 m63 x63;have D64:=(D62.st 8 rfl x63 m63).nf [_,_,_,_,_,_,_,_,boxR _ _ [_,_,_,_,_,_,_,_,_,_,_,_,_,_,_,_,_],_,_,_] rfl;refine ⟨D64.fr,?_⟩;refine RH.dn ?_;have D65:=hmo56.callAZ D64;have D66:=(D65.pk [0,1,2,11,12,13,14,15,16,17,18,19,20,21,22]).nq;refine gg 4 rfl (Rn.q rfl (V.ldB V3 rfl (D66.get 0 rfl) rfl) (gg 2 rfl ?_));refine aD Y (λh67 Y=>?_) (λh67 Y=>?_)
 ·cases Y
 refine gg 5 rfl (Rn.q rfl (V.ldB V3 rfl (D66.get 0 rfl) rfl) (gg 2 rfl ?_));refine aD Y (λh68 Y=>?_) (λh68 Y=>?_)
 ·cases Y
 refine gg 2 rfl ?_;have D70:=D66.dup 13 rfl (λ_ h=>h);have D72:=D70.dup 14 rfl (λ_ h=>h);have D75:=D72.cu [0,1,2,3,4,5,6,7,8,9,10,13,14] [11,12,15,16];obtain ⟨F74,D74⟩:=D75.fold (T_api_Point.sh b33 (⟨p28.Name,p28.Attrs,p28.Kind,p28.Temp,p28.Mono,x0.Start,p28.Time,p28.Int_,p28.Re,p28.Im,p28.Hist,orZ x0.Flags x1.Flags⟩:T_api_Point)) ⟨A57_0,c57_0,A57_1,c57_1,A57_2,c57_2,rfl⟩;have D86:=(D74.cutF [0,1,2] [13] [3,4,5,6,7,8,9,10,11,12] rfl (by decide) ⟨λ_ h=>h,λ_ h=>h,λ_ h=>h,λ_ h=>h,λ_ h=>h,λ_ h=>h,λ_ h=>h,λ_ h=>h,λ_ h=>h,λ_ h=>h,trivial⟩).nf ([_,_,_,_,_,_,_,_,_,_,_,_,_]++[_,_,_,_,_,_,_,_,_,_,_]) rfl;refine Rn.drawF rfl D86 ?_;intro w87 hmo87 D87;refine dq [0] ?_;refine RH.tk 1 rfl (λw' hDr=>V.ldB V3 rfl ((hmo87.awayK hDr).get 0 rfl) rfl) ?_;refine dq [2] ?_;refine RH.tk 3 rfl (λw' hDr=>V.ldB V39 rfl ((hmo87.awayK hDr).get 0 rfl) rfl) ?_;refine dq [4] ?_;refine RH.tk 5 rfl (λw' hDr=>V.ldB V39 rfl ((hmo87.awayK hDr).get 0 rfl) rfl) ?_;refine dq [6] ?_;refine RH.tk 7 rfl (λw' hDr=>V.ldBA [_,_,_,_,_,_] V44 O44 rfl ((hmo87.awayK hDr).get 0 rfl) rfl rfl) ?_;refine dq [8] ?_;obtain ⟨_,⟨A88_0,c88_0,A88_1,c88_1,A88_2,c88_2,rfl⟩,D88⟩:=D87.unf 0 rfl;replace D88:=D88.nq;refine RH.st 9 (by kernel_rfl) rfl rfl O3 rfl rfl rfl rfl (by first|exact ones rfl|(simp [Value.oneCell'];done)) (D88.get 10 rfl) (by first|exact nbl rfl|(simp;done)) ?_;intro w92 m92 x92;have D93:=(D88.st 10 rfl x92 m92).nf [_,_,_,_,_,_,_,_,_,_,boxR _ _ [_,_,_,_,_,_,_,_,_,_,_,_,_,_,_,_,_],_,_,_] rfl;refine ⟨D93.fr,?_⟩;refine dq [10] ?_;refine RH.st 11 (by kernel_rfl) rfl rfl O39 rfl rfl rfl rfl (by first|exact ones rfl|(simp [Value.oneCell'];done)) (D93.get 10 rfl) (by first|exact nbl rfl|(simp;done)) ?_;intro w94 m94 x94;have D95:=(D93.st 10 rfl x94 m94).nf [_,_,_,_,_,_,_,_,_,_,boxR _ _ [_,_,_,_,_,_,_,_,_,_,_,_,_,_,_,_,_],_,_,_] rfl;refine ⟨D95.fr,?_⟩;refine dq [12] ?_;refine RH.st 13 (by kernel_rfl) rfl rfl O39 rfl rfl rfl rfl (by first|exact ones rfl|(simp [Value.oneCell'];done)) (D95.get 10 rfl) (by first|exact nbl rfl|(simp;done)) ?_;intro w96 m96 x96;have D97:=(D95.st 10 rfl x96 m96).nf [_,_,_,_,_,_,_,_,_,_,boxR _ _ [_,_,_,_,_,_,_,_,_,_,_,_,_,_,_,_,_],_,_,_] rfl;refine ⟨D97.fr,?_⟩;refine dq [14] ?_;refine RH.st 15 (by kernel_rfl) rfl rfl O44 rfl rfl rfl rfl (by first|exact ones rfl|(simp [Value.oneCell'];done)) (D97.get 10 rfl) (by first|exact nbl rfl|(simp;done)) ?_;intro w98 m98 x98;have D99:=(D97.st 10 rfl x98 m98).nf [_,_,_,_,_,_,_,_,_,_,boxR _ _ [_,_,_,_,_,_,_,_,_,_,_,_,_,_,_,_,_],_,_,_] rfl;refine ⟨D99.fr,?_⟩;refine RH.dn ?_;have D100:=hmo87.callAZ D99;have D101:=(D100.pk [0,1,2,13,14,15,16,17,18,19,20,21,22,23,24,25,26]).nq;refine gg 2 rfl (Rn.q rfl (V.ldBA [_,_,_,_,_,_,_,_,_,_,_,_,_,_,_,_,_] V65 O65 rfl (D101.get 1 rfl) rfl rfl) ?_);have D103:=D101.dup 4 rfl (λ_ h=>h);have D105:=D103.dup 5 rfl (λ_ h=>h);have D108:=D105.cu [0,1,2,3,4,5,6,7,8,9,10,11,12,15,16] [13,14,17,18];obtain ⟨F107,D107⟩:=D108.fold (T_api_Point.sh b33 (⟨p28.Name,p28.Attrs,p28.Kind,p28.Temp,p28.Mono,x0.Start,p28.Time,x0.Int_,x0.Re,x0.Im,x0.Hist,orZ x0.Flags x1.Flags⟩:T_api_Point)) ⟨A88_0,c88_0,Ar3,cr3,Ar5,cr5,rfl⟩;obtain ⟨p102,e102,Y⟩:=bindE Y;have D109:=D107.know (relR T_api_Point.rep [Str (x1.Name),.slice Ar7 (x1.Attrs).length cr7,iv x1.Kind,iv x1.Temp,.bool (x1.Mono),iv x1.Start,iv x1.Time,iv x1.Int_,u64v x1.Re,u64v x1.Im,iv x1.Hist.Scale,u64v x1.Hist.Zero,iv x1.Hist.Pos.Offset,.slice Ar9 (x1.Hist.Pos.Counts).length cr9,iv x1.Hist.Neg.Offset,.slice Ar11 (x1.Hist.Neg.Counts).length cr11,iv x1.Flags] x1) (λ_ h=>h) (show T_api_Point.rep.rel _ _ _ _ from ⟨_,_,rfl,⟨rfl,trivial⟩,⟨_,_,rfl,⟨_,_,rfl,(D107.get 6 rfl).1,(D107.get 6 rfl).2.1,(D107.get 6 rfl).2.2⟩,⟨_,_,rfl,⟨rfl,trivial⟩,⟨_,_,rfl,⟨rfl,trivial⟩,⟨_,_,rfl,⟨rfl,trivial⟩,⟨_,_,rfl,⟨rfl,trivial⟩,⟨_,_,rfl,⟨rfl,trivial⟩,⟨_,_,rfl,⟨rfl,trivial⟩,⟨_,_,rfl,⟨rfl,trivial⟩,⟨_,_,rfl,⟨rfl,trivial⟩,⟨_,_,rfl,⟨_,_,rfl,⟨rfl,trivial⟩,⟨_,_,rfl,⟨rfl,trivial⟩,⟨_,_,rfl,⟨_,_,rfl,⟨rfl,trivial⟩,⟨_,_,rfl,(D107.get 7 rfl).1,(D107.get 7 rfl).2.1,(D107.get 7 rfl).2.2⟩⟩,⟨_,_,rfl,⟨rfl,trivial⟩,⟨_,_,rfl,(D107.get 8 rfl).1,(D107.get 8 rfl).2.1,(D107.get 8 rfl).2.2⟩⟩⟩⟩⟩,⟨rfl,trivial⟩⟩⟩⟩⟩⟩⟩⟩⟩⟩⟩⟩);have D111:=D109.cu [0,1,2,3,4,5,6,7,8,9,10,11,12,13,14] [15,16]
 refine Rn.a1 (cK func138) (m_rollup_values_sim e102 D111.lend :) D111 λF102_p0 w102 D113=>?_
 refine gg 4 rfl ?_;obtain ⟨_,⟨A114_0,c114_0,A114_1,c114_1,A114_2,c114_2,rfl⟩,D114⟩:=D113.unf 15 rfl;replace D114:=D114.nq;refine Rn.q rfl (V.ldBA [_,_,_,_,_,_,_,_,_,_,_,_,_,_,_,_,_] V65 O65 rfl (D114.get 15 rfl) rfl rfl) (gg 1 rfl (Rn.sq rfl O65 rfl rfl (D114.get 2 rfl) ?_));intro w118 m118 x118;have D119:=(D114.st 2 rfl x118 m118).nf [_,_,boxR _ _ [_,_,_,_,_,_,_,_,_,_,_,_,_,_,_,_,_],_,_,_,_,_,_,_,_,_,_,_,_,_,_,_,_] rfl;refine gg 2 rfl ?_;have D121:=D119.freeze 16 rfl;refine Rn.retG2 func107 rfl (rvC rfl V65 O65 (D119.get 2 rfl) rfl) (rvT rfl) ?_;obtain rfl:=someE Y;exact ⟨A114_0,c114_0,A114_1,c114_1,A114_2,c114_2,rfl,D121.pk [16,17,18]⟩
theorem m_rollup_Merge_sim {x0:T_api_Point} {x1:T_api_Point} {r:(T_api_Point×Int)} (Y:m_rollup_Merge x0 x1=some r) (h0:T_api_Point.rep.rel Z0 w cs0 x0) (h1:T_api_Point.rep.rel Z0 w cs1 x1) :
 Calls prog 62 #[.agg cs0.toArray,.agg cs1.toArray] w λx w'=>∃ A_0_0 c_0_0 A_0_1 c_0_1 A_0_2 c_0_2,x=.returned (.tuple #[.agg [Str (r.1.Name),.slice A_0_0 (r.1.Attrs).length c_0_0,iv r.1.Kind,iv r.1.Temp,.bool (r.1.Mono),iv r.1.Start,iv r.1.Time,iv r.1.Int_,u64v r.1.Re,u64v r.1.Im,iv r.1.Hist.Scale,u64v r.1.Hist.Zero,iv r.1.Hist.Pos.Offset,.slice A_0_1 (r.1.Hist.Pos.Counts).length c_0_1,iv r.1.Hist.Neg.Offset,.slice A_0_2 (r.1.Hist.Neg.Counts).length c_0_2,iv r.1.Flags].toArray,iv r.2])∧Hp Z0 No w w' [slR A_0_0 c_0_0 T_api_Pair.rep r.1.Attrs,slR A_0_1 c_0_1 w64R r.1.Hist.Pos.Counts,slR A_0_2 c_0_2 w64R r.1.Hist.Neg.Counts]:=by
 have D0:=Hp.nil Z0 No w;have hc0:=Calm.nil;obtain ⟨Ar1,cr1,Ar3,cr3,Ar5,cr5,rfl,fs1,fs3,fs5⟩:=T_api_Point.relE h0;obtain ⟨D13,hc0⟩:=D0.kn (r:=slR Ar1 cr1 T_api_Pair.rep x0.Attrs) hc0 fs1;obtain ⟨D14,hc0⟩:=D13.kn (r:=slR Ar3 cr3 w64R x0.Hist.Pos.Counts) hc0 fs3;obtain ⟨D15,hc0⟩:=D14.kn (r:=slR Ar5 cr5 w64R x0.Hist.Neg.Counts) hc0 fs5;obtain ⟨Ar7,cr7,Ar9,cr9,Ar11,cr11,rfl,fs7,fs9,fs11⟩:=T_api_Point.relE h1;obtain ⟨D16,hc0⟩:=D15.kn (r:=slR Ar7 cr7 T_api_Pair.rep x1.Attrs) hc0 fs7;obtain ⟨D17,hc0⟩:=D16.kn (r:=slR Ar9 cr9 w64R x1.Hist.Pos.Counts) hc0 fs9;obtain ⟨D18,hc0⟩:=D17.kn (r:=slR Ar11 cr11 w64R x1.Hist.Neg.Counts) hc0 fs11;refine eg func62 2 ?_;refine Rn.box rfl rfl rfl rfl rfl ?_;intro b19 w19 hb19 m19 e19;have D21:=(D18.addBox hb19 e19 m19).nf [_,_,_,_,_,_,boxR _ _ [_,_,_,_,_,_,_,_,_,_,_,_,_,_,_,_,_]] rfl;refine Rn.box rfl rfl rfl rfl rfl ?_;intro b22 w22 hb22 m22 e22;have D24:=(D21.addBox hb22 e22 m22).nf [_,_,_,_,_,_,_,boxR _ _ [_,_,_,_,_,_,_,_,_,_,_,_,_,_,_,_,_]] rfl
 refine Rn.al D24 Tryz.zeroValue65 λb25 w25 D27=>?_
 replace D27:=D27.nf [_,_,_,_,_,_,_,_,boxR _ _ [_,_,_,_,_,_,_,_,_,_,_,_,_,_,_,_,_]] rfl;refine gg 4 rfl (Rn.q rfl (V.ldBA [_,_,_,_,_,_,_,_,_,_,_,_,_,_,_,_,_] V65 O65 rfl (D27.get 6 rfl) rfl rfl) ?_);obtain ⟨p28,e28,Y⟩:=bindE Y
 refine Rn.c0 (cK func37) (m_point_Check_sim (Z0:=All) e28 (show T_api_Point.rep.rel All _ _ _ from ⟨_,_,rfl,⟨rfl,trivial⟩,⟨_,_,rfl,⟨_,_,rfl,(slR_all (D27.get 0 rfl)).1,(slR_all (D27.get 0 rfl)).2.1,(slR_all (D27.get 0 rfl)).2.2⟩,⟨_,_,rfl,⟨rfl,trivial⟩,⟨_,_,rfl,⟨rfl,trivial⟩,⟨_,_,rfl,⟨rfl,trivial⟩,⟨_,_,rfl,⟨rfl,trivial⟩,⟨_,_,rfl,⟨rfl,trivial⟩,⟨_,_,rfl,⟨rfl,trivial⟩,⟨_,_,rfl,⟨rfl,trivial⟩,⟨_,_,rfl,⟨rfl,trivial⟩,⟨_,_,rfl,⟨_,_,rfl,⟨rfl,trivial⟩,⟨_,_,rfl,⟨rfl,trivial⟩,⟨_,_,rfl,⟨_,_,rfl,⟨rfl,trivial⟩,⟨_,_,rfl,(slR_all (D27.get 1 rfl)).1,(slR_all (D27.get 1 rfl)).2.1,(slR_all (D27.get 1 rfl)).2.2⟩⟩,⟨_,_,rfl,⟨rfl,trivial⟩,⟨_,_,rfl,(slR_all (D27.get 2 rfl)).1,(slR_all (D27.get 2 rfl)).2.1,(slR_all (D27.get 2 rfl)).2.2⟩⟩⟩⟩⟩,⟨rfl,trivial⟩⟩⟩⟩⟩⟩⟩⟩⟩⟩⟩⟩) :) D27 λw28 _ D29=>?_
 replace D29:=D29.nq;refine gg 8 rfl ?_;refine aD Y (λh30 Y=>?_) (λh30 Y=>?_)
 ·refine gg 1 rfl (Rn.q rfl (V.ldBA [_,_,_,_,_,_,_,_,_,_,_,_,_,_,_,_,_] V65 O65 rfl (D29.get 7 rfl) rfl rfl) ?_);obtain ⟨p31,e31,Y⟩:=bindE Y
  refine Rn.c0 (cK func37) (m_point_Check_sim (Z0:=All) e31 (show T_api_Point.rep.rel All _ _ _ from ⟨_,_,rfl,⟨rfl,trivial⟩,⟨_,_,rfl,⟨_,_,rfl,(slR_all (D29.get 3 rfl)).1,(slR_all (D29.get 3 rfl)).2.1,(slR_all (D29.get 3 rfl)).2.2⟩,⟨_,_,rfl,⟨rfl,trivial⟩,⟨_,_,rfl,⟨rfl,trivial⟩,⟨_,_,rfl,⟨rfl,trivial⟩,⟨_,_,rfl,⟨rfl,trivial⟩,⟨_,_,rfl,⟨rfl,trivial⟩,⟨_,_,rfl,⟨rfl,trivial⟩,⟨_,_,rfl,⟨rfl,trivial⟩,⟨_,_,rfl,⟨rfl,trivial⟩,⟨_,_,rfl,⟨_,_,rfl,⟨rfl,trivial⟩,⟨_,_,rfl,⟨rfl,trivial⟩,⟨_,_,rfl,⟨_,_,rfl,⟨rfl,trivial⟩,⟨_,_,rfl,(slR_all (D29.get 4 rfl)).1,(slR_all (D29.get 4 rfl)).2.1,(slR_all (D29.get 4 rfl)).2.2⟩⟩,⟨_,_,rfl,⟨rfl,trivial⟩,⟨_,_,rfl,(slR_all (D29.get 5 rfl)).1,(slR_all (D29.get 5 rfl)).2.1,(slR_all (D29.get 5 rfl)).2.2⟩⟩⟩⟩⟩,⟨rfl,trivial⟩⟩⟩⟩⟩⟩⟩⟩⟩⟩⟩⟩) :) D29 λw31 _ D32=>?_
  replace D32:=D32.nq;refine gg 8 rfl ?_;refine aD Y (λh33 Y=>?_) (λh33 Y=>?_)
  ·refine gg 1 rfl (Rn.q rfl (V.ldBA [_,_,_,_,_,_,_,_,_,_,_,_,_,_,_,_,_] V65 O65 rfl (D32.get 6 rfl) rfl rfl) (Rn.q rfl (V.ldBA [_,_,_,_,_,_,_,_,_,_,_,_,_,_,_,_,_] V65 O65 rfl (D32.get 7 rfl) rfl rfl) ?_));obtain ⟨p34,e34,Y⟩:=bindE Y
   refine Rn.c0 (cK func106) (m_rollup_fits_sim (Z0:=All) e34 (show T_api_Point.rep.rel All _ _ _ from ⟨_,_,rfl,⟨rfl,trivial⟩,⟨_,_,rfl,⟨_,_,rfl,(slR_all (D32.get 0 rfl)).1,(slR_all (D32.get 0 rfl)).2.1,(slR_all (D32.get 0 rfl)).2.2⟩,⟨_,_,rfl,⟨rfl,trivial⟩,⟨_,_,rfl,⟨rfl,trivial⟩,⟨_,_,rfl,⟨rfl,trivial⟩,⟨_,_,rfl,⟨rfl,trivial⟩,⟨_,_,rfl,⟨rfl,trivial⟩,⟨_,_,rfl,⟨rfl,trivial⟩,⟨_,_,rfl,⟨rfl,trivial⟩,⟨_,_,rfl,⟨rfl,trivial⟩,⟨_,_,rfl,⟨_,_,rfl,⟨rfl,trivial⟩,⟨_,_,rfl,⟨rfl,trivial⟩,⟨_,_,rfl,⟨_,_,rfl,⟨rfl,trivial⟩,⟨_,_,rfl,(slR_all (D32.get 1 rfl)).1,(slR_all (D32.get 1 rfl)).2.1,(slR_all (D32.get 1 rfl)).2.2⟩⟩,⟨_,_,rfl,⟨rfl,trivial⟩,⟨_,_,rfl,(slR_all (D32.get 2 rfl)).1,(slR_all (D32.get 2 rfl)).2.1,(slR_all (D32.get 2 rfl)).2.2⟩⟩⟩⟩⟩,⟨rfl,trivial⟩⟩⟩⟩⟩⟩⟩⟩⟩⟩⟩⟩) (show T_api_Point.rep.rel All _ _ _ from ⟨_,_,rfl,⟨rfl,trivial⟩,⟨_,_,rfl,⟨_,_,rfl,(slR_all (D32.get 3 rfl)).1,(slR_all (D32.get 3 rfl)).2.1,(slR_all (D32.get 3 rfl)).2.2⟩,⟨_,_,rfl,⟨rfl,trivial⟩,⟨_,_,rfl,⟨rfl,trivial⟩,⟨_,_,rfl,⟨rfl,trivial⟩,⟨_,_,rfl,⟨rfl,trivial⟩,⟨_,_,rfl,⟨rfl,trivial⟩,⟨_,_,rfl,⟨rfl,trivial⟩,⟨_,_,rfl,⟨rfl,trivial⟩,⟨_,_,rfl,⟨rfl,trivial⟩,⟨_,_,rfl,⟨_,_,rfl,⟨rfl,trivial⟩,⟨_,_,rfl,⟨rfl,trivial⟩,⟨_,_,rfl,⟨_,_,rfl,⟨rfl,trivial⟩,⟨_,_,rfl,(slR_all (D32.get 4 rfl)).1,(slR_all (D32.get 4 rfl)).2.1,(slR_all (D32.get 4 rfl)).2.2⟩⟩,⟨_,_,rfl,⟨rfl,trivial⟩,⟨_,_,rfl,(slR_all (D32.get 5 rfl)).1,(slR_all (D32.get 5 rfl)).2.1,(slR_all (D32.get 5 rfl)).2.2⟩⟩⟩⟩⟩,⟨rfl,trivial⟩⟩⟩⟩⟩⟩⟩⟩⟩⟩⟩⟩) :) D32 λw34 _ D35=>?_
   replace D35:=D35.nq;refine gg 8 rfl ?_;refine aD Y (λh36 Y=>?_) (λh36 Y=>?_)
   ·cases Y
   refine gg 3 rfl (Rn.q rfl (V.ldBA [_,_,_,_,_,_,_,_,_,_,_,_,_,_,_,_,_] V65 O65 rfl (D35.get 6 rfl) rfl rfl) (Rn.q rfl (V.ldBA [_,_,_,_,_,_,_,_,_,_,_,_,_,_,_,_,_] V65 O65 rfl (D35.get 7 rfl) rfl rfl) ?_));obtain ⟨p37,e37,Y⟩:=bindE Y;refine Rn.cq (cK func107) (m_rollup_join_sim (Z0:=D35.Z) e37 (show T_api_Point.rep.rel _ _ _ _ from ⟨_,_,rfl,⟨rfl,trivial⟩,⟨_,_,rfl,⟨_,_,rfl,(D35.get 0 rfl).1,(D35.get 0 rfl).2.1,(D35.get 0 rfl).2.2⟩,⟨_,_,rfl,⟨rfl,trivial⟩,⟨_,_,rfl,⟨rfl,trivial⟩,⟨_,_,rfl,⟨rfl,trivial⟩,⟨_,_,rfl,⟨rfl,trivial⟩,⟨_,_,rfl,⟨rfl,trivial⟩,⟨_,_,rfl,⟨rfl,trivial⟩,⟨_,_,rfl,⟨rfl,trivial⟩,⟨_,_,rfl,⟨rfl,trivial⟩,⟨_,_,rfl,⟨_,_,rfl,⟨rfl,trivial⟩,⟨_,_,rfl,⟨rfl,trivial⟩,⟨_,_,rfl,⟨_,_,rfl,⟨rfl,trivial⟩,⟨_,_,rfl,(D35.get 1 rfl).1,(D35.get 1 rfl).2.1,(D35.get 1 rfl).2.2⟩⟩,⟨_,_,rfl,⟨rfl,trivial⟩,⟨_,_,rfl,(D35.get 2 rfl).1,(D35.get 2 rfl).2.1,(D35.get 2 rfl).2.2⟩⟩⟩⟩⟩,⟨rfl,trivial⟩⟩⟩⟩⟩⟩⟩⟩⟩⟩⟩⟩) (show T_api_Point.rep.rel _ _ _ _ from ⟨_,_,rfl,⟨rfl,trivial⟩,⟨_,_,rfl,⟨_,_,rfl,(D35.get 3 rfl).1,(D35.get 3 rfl).2.1,(D35.get 3 rfl).2.2⟩,⟨_,_,rfl,⟨rfl,trivial⟩,⟨_,_,rfl,⟨rfl,trivial⟩,⟨_,_,rfl,⟨rfl,trivial⟩,⟨_,_,rfl,⟨rfl,trivial⟩,⟨_,_,rfl,⟨rfl,trivial⟩,⟨_,_,rfl,⟨rfl,trivial⟩,⟨_,_,rfl,⟨rfl,trivial⟩,⟨_,_,rfl,⟨rfl,trivial⟩,⟨_,_,rfl,⟨_,_,rfl,⟨rfl,trivial⟩,⟨_,_,rfl,⟨rfl,trivial⟩,⟨_,_,rfl,⟨_,_,rfl,⟨rfl,trivial⟩,⟨_,_,rfl,(D35.get 4 rfl).1,(D35.get 4 rfl).2.1,(D35.get 4 rfl).2.2⟩⟩,⟨_,_,rfl,⟨rfl,trivial⟩,⟨_,_,rfl,(D35.get 5 rfl).1,(D35.get 5 rfl).2.1,(D35.get 5 rfl).2.2⟩⟩⟩⟩⟩,⟨rfl,trivial⟩⟩⟩⟩⟩⟩⟩⟩⟩⟩⟩⟩) :) ?_;rintro _ w37 ⟨A37_0_0,c37_0_0,A37_0_1,c37_0_1,A37_0_2,c37_0_2,rfl,Q37⟩;refine ⟨_,rfl,?_⟩;have D41:=D35.callZ Q37;replace D41:=D41.nq;refine gg 3 rfl (Rn.als rfl rfl rfl Tryz.zeroValue65 rfl O65 rfl rfl rfl rfl (by first|exact ones rfl|(simp [Value.oneCell'];done)) ?_);intro b42 w42 hb42 m42 e42;have D44:=(D41.addBox hb42 e42 m42).nf [_,_,_,_,_,_,_,_,_,_,_,_,boxR _ _ [_,_,_,_,_,_,_,_,_,_,_,_,_,_,_,_,_]] rfl;refine gg 8 rfl ?_;refine aD Y (λh45 Y=>?_) (λh45 Y=>?_)
   ·cases Y
   refine gg 3 rfl (Rn.q rfl (V.ldBA [_,_,_,_,_,_,_,_,_,_,_,_,_,_,_,_,_] V65 O65 rfl (D44.get 12 rfl) rfl rfl) (Rn.sq rfl O65 rfl rfl (D44.get 8 rfl) ?_));intro w46 m46 x46;have D47:=(D44.st 8 rfl x46 m46).nf [_,_,_,_,_,_,_,_,boxR _ _ [_,_,_,_,_,_,_,_,_,_,_,_,_,_,_,_,_],_,_,_,_] rfl;refine gg 2 rfl ?_;refine Rn.retG2 func62 rfl (rvC rfl V65 O65 (D47.get 8 rfl) rfl) (rvT rfl) ?_;obtain rfl:=someE Y;exact ⟨A37_0_0,c37_0_0,A37_0_1,c37_0_1,A37_0_2,c37_0_2,rfl,D47.pk [9,10,11]⟩
  cases Y
 cases Y
end Go.Proofs.YtffboddbdpagkaaGreatDoor
