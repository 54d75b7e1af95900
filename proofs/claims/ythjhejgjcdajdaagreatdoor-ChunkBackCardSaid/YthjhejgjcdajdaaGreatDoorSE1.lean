import Derived.Test.YthjhejgjcdajdaaGreatDoorRows
import Derived.Test.YthjhejgjcdajdaaGreatDoorVE2
import Derived.Test.YthjhejgjcdajdaaGreatDoorNE
set_option maxRecDepth 20000
set_option maxHeartbeats 4000000
set_option linter.unusedVariables false
set_option linter.unusedSimpArgs false
namespace Go.Proofs.YthjhejgjcdajdaaGreatDoor
open Go Go.RowKit Go.Wk _root_.Go.Proofs.Tryz
open _root_.Go.Proofs.Tryz renaming underlying3→U3,underlying5→U5,underlying9→U9,underlying22→U22,underlying34→U34,underlying35→U35,underlying36→U36,underlying38→U38,underlying40→U40,underlying42→U42,underlying44→U44,underlying80→U80,underlying83→U83,underlying94→U94,underlying96→U96,underlying118→U118,underlying122→U122,underlying134→U134,underlying137→U137,underlying139→U139,underlying172→U172,underlying179→U179,underlying186→U186,underlying188→U188,underlying190→U190,underlying192→U192,underlying200→U200,underlying206→U206,underlying222→U222,underlying224→U224,underlying226→U226,underlying232→U232,underlying234→U234,underlying236→U236,underlying258→U258,underlying267→U267,underlying270→U270,isAgg3→V3,isAgg4→V4,isAgg5→V5,isAgg9→V9,isAgg22→V22,isAgg34→V34,isAgg35→V35,isAgg36→V36,isAgg38→V38,isAgg40→V40,isAgg42→V42,isAgg76→V76,isAgg77→V77,isAgg78→V78,isAgg80→V80,isAgg118→V118,isAgg186→V186,isAgg188→V188,isAgg190→V190,isAgg206→V206,isAgg222→V222,isAgg224→V224,isAgg232→V232,isAgg234→V234,sizeOf3→O3,sizeOf4→O4,sizeOf5→O5,sizeOf9→O9,sizeOf22→O22,sizeOf25→O25,sizeOf34→O34,sizeOf35→O35,sizeOf36→O36,sizeOf38→O38,sizeOf40→O40,sizeOf42→O42,sizeOf72→O72,sizeOf76→O76,sizeOf77→O77,sizeOf78→O78,sizeOf80→O80,sizeOf94→O94,sizeOf118→O118,sizeOf119→O119,sizeOf186→O186,sizeOf188→O188,sizeOf190→O190,sizeOf206→O206,sizeOf222→O222,sizeOf224→O224,sizeOf232→O232,sizeOf234→O234
variable {Z0:Nat→Prop} {w:World} {F0:Nat→Prop} {F1:Nat→Prop} {F2:Nat→Prop} {F3:Nat→Prop} {F4:Nat→Prop} {F5:Nat→Prop} {b0:Nat} {b1:Nat} {b2:Nat} {b3:Nat} {b4:Nat} {b5:Nat} {A0:Option Addr} {A1:Option Addr} {A2:Option Addr} {A3:Option Addr} {A4:Option Addr} {A5:Option Addr} {c0:Nat} {c1:Nat} {c2:Nat} {c3:Nat} {c4:Nat} {c5:Nat} {cs0:List Value} {cs1:List Value} {cs2:List Value} {cs3:List Value}
def gl1:List Value:=[iv 0,iv 0]
def gl3:List Value:=gt3.map λx=>u8v x
theorem st38:zT0 prog 38 [.int .i64 0,.slice none 0 0] [(0,1),(1,1)]:=⟨Tryz.zeroValue38,_,U38,λw=>by kernel_rfl⟩
theorem st40:zT0 prog 40 [.int .i64 0,.int .u64 0,.int .i64 0,.slice none 0 0,.int .i64 0,.slice none 0 0] [(0,1),(1,1),(2,2),(4,2)]:=⟨Tryz.zeroValue40,_,U40,λw=>by kernel_rfl⟩
theorem zhc:zT0 prog 42 [Str [],.slice none 0 0,.int .i64 0,.int .i64 0,.bool false,.int .i64 0,.int .i64 0,.int .i64 0,.int .u64 0,.int .u64 0,.int .i64 0,.int .u64 0,.int .i64 0,.slice none 0 0,.int .i64 0,.slice none 0 0,.int .i64 0] [(0,1),(1,1),(2,1),(3,1),(4,1),(5,1),(6,1),(7,1),(8,1),(9,1),(10,6),(16,1)]:=⟨Tryz.zeroValue42,_,U42,λw=>by kernel_rfl⟩
theorem st44:zT0 prog 44 [.int .i64 0,Str [],.slice none 0 0,.int .i64 0,.int .i64 0,.bool false,.int .i64 0,.int .i64 0,.int .i64 0,.int .u64 0,.int .u64 0,.int .i64 0,.int .u64 0,.int .i64 0,.slice none 0 0,.int .i64 0,.slice none 0 0,.int .i64 0] [(0,1),(1,17)]:=⟨Tryz.zeroValue44,_,U44,λw=>by kernel_rfl⟩
theorem st80:zT0 prog 80 [.pointer none,.pointer none,.pointer none,.pointer none,.pointer none,.pointer none,.pointer none] [(0,1),(1,1),(2,1),(3,1),(4,1),(5,1),(6,1)]:=⟨Tryz.zeroValue80,_,U80,λw=>by kernel_rfl⟩
theorem st83:zT0 prog 83 [.pointer none,.pointer none,.pointer none,.pointer none,.pointer none,.pointer none,.pointer none,.pointer none,.int .i64 0] [(0,1),(1,7),(8,1)]:=⟨Tryz.zeroValue83,_,U83,λw=>by kernel_rfl⟩
theorem st94:zT0 prog 94 [.int .i64 0,.int .i64 0] [(0,1),(1,1)]:=⟨Tryz.zeroValue94,_,U94,λw=>by kernel_rfl⟩
theorem st96:zT0 prog 96 [.slice none 0 0,.int .i64 0,.int .i64 0] [(0,1),(1,2)]:=⟨Tryz.zeroValue96,_,U96,λw=>by kernel_rfl⟩
theorem zg8:zT0 prog 118 [Str [],Str []] [(0,1),(1,1)]:=⟨Tryz.zeroValue118,_,U118,λw=>by kernel_rfl⟩
theorem st122:zT0 prog 122 [Str [],.int .i64 0,.int .i64 0,.int .i64 0,.pointer none,.pointer none,.pointer none,.pointer none,.pointer none,.pointer none,.pointer none,.pointer none] [(0,1),(1,1),(2,1),(3,1),(4,1),(5,7)]:=⟨Tryz.zeroValue122,_,U122,λw=>by kernel_rfl⟩
theorem zg7:zT0 prog 134 [.slice none 0 0,.int .i64 0,.int .i64 0] [(0,1),(1,1),(2,1)]:=⟨Tryz.zeroValue134,_,U134,λw=>by kernel_rfl⟩
theorem st139:zT0 prog 139 [.slice none 0 0,.int .i64 0,.int .i64 0] [(0,1),(1,1),(2,1)]:=⟨Tryz.zeroValue139,_,U139,λw=>by kernel_rfl⟩
theorem st172:zT0 prog 172 [.slice none 0 0,.int .i64 0] [(0,1),(1,1)]:=⟨Tryz.zeroValue172,_,U172,λw=>by kernel_rfl⟩
theorem st179:zT0 prog 179 [.slice none 0 0] [(0,1)]:=⟨Tryz.zeroValue179,_,U179,λw=>by kernel_rfl⟩
theorem st186:zT0 prog 186 [.int .i64 0,.int .u64 0,.int .u64 0] [(0,1),(1,1),(2,1)]:=⟨Tryz.zeroValue186,_,U186,λw=>by kernel_rfl⟩
theorem zg6:zT0 prog 188 [.int .i64 0,.int .i64 0] [(0,1),(1,1)]:=⟨Tryz.zeroValue188,_,U188,λw=>by kernel_rfl⟩
theorem st190:zT0 prog 190 [.int .i64 0,.int .u64 0,.int .i64 0,.int .i64 0] [(0,1),(1,1),(2,2)]:=⟨Tryz.zeroValue190,_,U190,λw=>by kernel_rfl⟩
theorem zg5:zT0 prog 192 [.int .i64 0,.int .i64 0,.int .u64 0,.int .i64 0,.slice none 0 0,.int .i64 0,.slice none 0 0] [(0,1),(1,6)]:=⟨Tryz.zeroValue192,_,U192,λw=>by kernel_rfl⟩
theorem st200:zT0 prog 200 [.pointer none,.int .i64 0] [(0,1),(1,1)]:=⟨Tryz.zeroValue200,_,U200,λw=>by kernel_rfl⟩
theorem st206:zT0 prog 206 [.int .i64 0,.int .i64 0,.int .i64 0,.int .i64 0,.int .i64 0] [(0,1),(1,1),(2,1),(3,1),(4,1)]:=⟨Tryz.zeroValue206,_,U206,λw=>by kernel_rfl⟩
theorem zfg:zfn prog 222 [.int .i64 0,.slice none 0 0,.int .i64 0,.slice none 0 0] 2 2 38:=⟨Tryz.zeroValue222,U222,O38⟩
theorem zch:zfn prog 232 [.int .i64 0,.int .i64 0,.int .i64 0,.int .i64 0,.int .i64 0] 5 1 3:=⟨Tryz.zeroValue232,U232,O3⟩
theorem zcg:zfn prog 234 [.int .i64 0,.int .i64 0,.int .i64 0,.int .i64 0] 4 1 3:=⟨Tryz.zeroValue234,U234,O3⟩
theorem ar270:zfn prog 270 [.int .u8 0,.int .u8 0,.int .u8 0,.int .u8 0,.int .u8 0,.int .u8 0,.int .u8 0,.int .u8 0,.int .u8 0,.int .u8 0,.int .u8 0,.int .u8 0,.int .u8 0,.int .u8 0,.int .u8 0,.int .u8 0,.int .u8 0,.int .u8 0,.int .u8 0,.int .u8 0,.int .u8 0,.int .u8 0,.int .u8 0,.int .u8 0,.int .u8 0,.int .u8 0,.int .u8 0,.int .u8 0,.int .u8 0,.int .u8 0,.int .u8 0,.int .u8 0,.int .u8 0,.int .u8 0,.int .u8 0,.int .u8 0,.int .u8 0,.int .u8 0,.int .u8 0,.int .u8 0,.int .u8 0,.int .u8 0,.int .u8 0,.int .u8 0,.int .u8 0,.int .u8 0,.int .u8 0,.int .u8 0,.int .u8 0,.int .u8 0,.int .u8 0,.int .u8 0,.int .u8 0,.int .u8 0,.int .u8 0,.int .u8 0,.int .u8 0,.int .u8 0,.int .u8 0,.int .u8 0,.int .u8 0,.int .u8 0,.int .u8 0,.int .u8 0] 64 1 5:=⟨Tryz.zeroValue270,U270,O5⟩
theorem fo38:zT1 prog 38 [0,1]:=⟨_,U38,⟨_,O3,rfl⟩,rfl,⟨_,O36,rfl⟩,rfl,trivial⟩
theorem fo40:zT1 prog 40 [0,1,2,4]:=⟨_,U40,⟨_,O3,rfl⟩,rfl,⟨_,O35,rfl⟩,rfl,⟨_,O38,rfl⟩,rfl,⟨_,O38,rfl⟩,rfl,trivial⟩
theorem fo42:zT1 prog 42 [0,1,2,3,4,5,6,7,8,9,10,16]:=⟨_,U42,⟨_,O9,rfl⟩,rfl,⟨_,O34,rfl⟩,rfl,⟨_,O3,rfl⟩,rfl,⟨_,O3,rfl⟩,rfl,⟨_,O4,rfl⟩,rfl,⟨_,O3,rfl⟩,rfl,⟨_,O3,rfl⟩,rfl,⟨_,O3,rfl⟩,rfl,⟨_,O35,rfl⟩,rfl,⟨_,O35,rfl⟩,rfl,⟨_,O40,rfl⟩,rfl,⟨_,O3,rfl⟩,rfl,trivial⟩
theorem fo44:zT1 prog 44 [0,1]:=⟨_,U44,⟨_,O3,rfl⟩,rfl,⟨_,O42,rfl⟩,rfl,trivial⟩
theorem fo80:zT1 prog 80 [0,1,2,3,4,5,6]:=⟨_,U80,⟨_,O76,rfl⟩,rfl,⟨_,O76,rfl⟩,rfl,⟨_,O76,rfl⟩,rfl,⟨_,O76,rfl⟩,rfl,⟨_,O77,rfl⟩,rfl,⟨_,O77,rfl⟩,rfl,⟨_,O78,rfl⟩,rfl,trivial⟩
theorem fo83:zT1 prog 83 [0,1,8]:=⟨_,U83,⟨_,O72,rfl⟩,rfl,⟨_,O80,rfl⟩,rfl,⟨_,O25,rfl⟩,rfl,trivial⟩
theorem fo94:zT1 prog 94 [0,1]:=⟨_,U94,⟨_,O3,rfl⟩,rfl,⟨_,O3,rfl⟩,rfl,trivial⟩
theorem fo96:zT1 prog 96 [0,1]:=⟨_,U96,⟨_,O36,rfl⟩,rfl,⟨_,O94,rfl⟩,rfl,trivial⟩
theorem fo118:zT1 prog 118 [0,1]:=⟨_,U118,⟨_,O9,rfl⟩,rfl,⟨_,O9,rfl⟩,rfl,trivial⟩
theorem fo122:zT1 prog 122 [0,1,2,3,4,5]:=⟨_,U122,⟨_,O9,rfl⟩,rfl,⟨_,O3,rfl⟩,rfl,⟨_,O3,rfl⟩,rfl,⟨_,O3,rfl⟩,rfl,⟨_,O119,rfl⟩,rfl,⟨_,O80,rfl⟩,rfl,trivial⟩
theorem fo134:zT1 prog 134 [0,1,2]:=⟨_,U134,⟨_,O22,rfl⟩,rfl,⟨_,O3,rfl⟩,rfl,⟨_,O25,rfl⟩,rfl,trivial⟩
theorem fo139:zT1 prog 139 [0,1,2]:=⟨_,U139,⟨_,O22,rfl⟩,rfl,⟨_,O3,rfl⟩,rfl,⟨_,O3,rfl⟩,rfl,trivial⟩
theorem fo172:zT1 prog 172 [0,1]:=⟨_,U172,⟨_,O22,rfl⟩,rfl,⟨_,O3,rfl⟩,rfl,trivial⟩
theorem fo179:zT1 prog 179 [0]:=⟨_,U179,⟨_,O22,rfl⟩,rfl,trivial⟩
theorem fo186:zT1 prog 186 [0,1,2]:=⟨_,U186,⟨_,O3,rfl⟩,rfl,⟨_,O35,rfl⟩,rfl,⟨_,O35,rfl⟩,rfl,trivial⟩
theorem fo188:zT1 prog 188 [0,1]:=⟨_,U188,⟨_,O3,rfl⟩,rfl,⟨_,O3,rfl⟩,rfl,trivial⟩
theorem fo190:zT1 prog 190 [0,1,2]:=⟨_,U190,⟨_,O3,rfl⟩,rfl,⟨_,O35,rfl⟩,rfl,⟨_,O188,rfl⟩,rfl,trivial⟩
theorem fo192:zT1 prog 192 [0,1]:=⟨_,U192,⟨_,O3,rfl⟩,rfl,⟨_,O40,rfl⟩,rfl,trivial⟩
theorem fo200:zT1 prog 200 [0,1]:=⟨_,U200,⟨_,O72,rfl⟩,rfl,⟨_,O25,rfl⟩,rfl,trivial⟩
def tab:List (Nat×List Nat):=[(38,[0,1]),(40,[0,1,2,4]),(42,[0,1,2,3,4,5,6,7,8,9,10,16]),(44,[0,1]),(80,[0,1,2,3,4,5,6]),(83,[0,1,8]),(94,[0,1]),(96,[0,1]),(118,[0,1]),(122,[0,1,2,3,4,5]),(134,[0,1,2]),(139,[0,1,2]),(172,[0,1]),(179,[0]),(186,[0,1,2]),(188,[0,1]),(190,[0,1,2]),(192,[0,1]),(200,[0,1])]
theorem zdy:zT prog tab:=(.cons fo38 (.cons fo40 (.cons fo42 (.cons fo44 (.cons fo80 (.cons fo83 (.cons fo94 (.cons fo96 (.cons fo118 (.cons fo122 (.cons fo134 (.cons fo139 (.cons fo172 (.cons fo179 (.cons fo186 (.cons fo188 (.cons fo190 (.cons fo192 (.cons fo200 zT.nil)))))))))))))))))))
theorem gg {f:FuncId} {n:Nat} {R:Ending→World→Prop} {k k':List Item} {e e':Env} {w:World} (m:Nat) (h:sr tab n m k e=some (k',e')) (hr:Rn prog f n R k' e' w):Rn prog f n R k e w:=sr_ok zdy m k e h hr
theorem eg {f:FuncId} {n:Nat} {R:Ending→World→Prop} {k':List Item} {e':Env} {w:World} {fn:Func} {c:Code} {args:List Value} (hf:prog.funcs[f]?=some fn) (m:Nat) (hr:Rn prog f n R k' e' w) (hb:fn.body=some c:=by exact rfl) (hn:fn.ntmps=n:=by exact rfl) (hl:args.length≤n:=by exact nbl rfl) (h:sr tab n m [.code c] (zSm 0 args)=some (k',e'):=by exact rfl):Calls prog f args.toArray w R:=Rn.enter hf hb hn hl (gg m h hr)
theorem bD {f:FuncId} {n:Nat} {R:Ending→World→Prop} {k k1 k2:List Item} {e e1 e2:Env} {w:World} {β:Type} {a b:Option β} {r:β} {p:Prop} [Decidable p] {c:Operand} {x y:Code} (Y:(if p then a else b)=some r) (m1 m2:Nat) (ht:p→a=some r→Rn prog f n R k1 e1 w) (hf:¬p→b=some r→Rn prog f n R k2 e2 w) (hc:ev e c=some (.bool (decide p)):=by exact rfl) (h1:sr tab n m1 (.code x::k) e=some (k1,e1):=by exact rfl) (h2:sr tab n m2 (.code y::k) e=some (k2,e2):=by exact rfl):Rn prog f n R (.code (.cond c x y)::k) e w:=aD Y (λh Y=>gg m1 h1 (ht h Y)) (λh Y=>gg m2 h2 (hf h Y)) hc
theorem bS {f:FuncId} {n:Nat} {R:Ending→World→Prop} {k k1 k2:List Item} {e e1 e2:Env} {w:World} {β:Type} {a b:Option β} {r:β} {t:Bool} {c:Operand} {x y:Code} (Y:(if t=true then a else b)=some r) (m1 m2:Nat) (ht:t=true→a=some r→Rn prog f n R k1 e1 w) (hf:t=false→b=some r→Rn prog f n R k2 e2 w) (hc:ev e c=some (.bool t):=by exact rfl) (h1:sr tab n m1 (.code x::k) e=some (k1,e1):=by exact rfl) (h2:sr tab n m2 (.code y::k) e=some (k2,e2):=by exact rfl):Rn prog f n R (.code (.cond c x y)::k) e w:=aS Y (λh Y=>gg m1 h1 (ht h Y)) (λh Y=>gg m2 h2 (hf h Y)) hc
theorem dd {n:Nat} {K:Act→World→Prop} {S:World→Prop} {w:World} {ops:Array Oper} {fuel:Nat} {listed:Array Bool} {e e':Env} (is:List Nat) (hk:zS ops listed is=true) (hf:Nat.ble is.length fuel=true) (h:dr tab n ops is e=some e') (hr:RG prog n K ops S (fuel-is.length) (zat listed is) e' w):RG prog n K ops S fuel listed e w:=zh5 zdy is hk hf h hr
theorem dq {n:Nat} {K:Act→World→Prop} {S:World→Prop} {w:World} {ops:Array Oper} {fuel:Nat} {listed:Array Bool} {e e':Env} (is:List Nat) (hr:RG prog n K ops S (fuel-is.length) (zat listed is) e' w) (hk:zS ops listed is=true:=by kernel_rfl) (hf:Nat.ble is.length fuel=true:=by exact rfl) (h:dr tab n ops is e=some e':=by exact rfl):RG prog n K ops S fuel listed e w:=zh5 zdy is hk hf h hr
theorem zA0.relE {Z:Nat→Prop} {w:World} {vs:List Value} {x:zA0} (h:zA0.rep.rel Z w vs x):vs=[Str (x.Key),Str (x.Val)]:=by
 obtain ⟨_,_,rfl,⟨rfl,_⟩,⟨rfl,_⟩⟩:=h;exact rfl
theorem zAa.relE {Z:Nat→Prop} {w:World} {vs:List Value} {x:zAa} (h:zAa.rep.rel Z w vs x):∃ (Ar1:Option Addr) (cr1:Nat),vs=[iv x.Offset,.slice Ar1 (x.Counts).length cr1]∧(slR Ar1 cr1 zAq x.Counts).H Z w:=by
 obtain ⟨_,_,rfl,⟨rfl,_⟩,⟨Ar1,cr1,rfl,p1,q1,s1⟩⟩:=h;exact ⟨Ar1,cr1,rfl,⟨p1,q1,s1⟩⟩
theorem zA2.relE {Z:Nat→Prop} {w:World} {vs:List Value} {x:zA2} (h:zA2.rep.rel Z w vs x):∃ (Ar1:Option Addr) (cr1:Nat) (Ar3:Option Addr) (cr3:Nat),vs=[iv x.Scale,zAn x.Zero,iv x.Pos.Offset,.slice Ar1 (x.Pos.Counts).length cr1,iv x.Neg.Offset,.slice Ar3 (x.Neg.Counts).length cr3]∧(slR Ar1 cr1 zAq x.Pos.Counts).H Z w∧(slR Ar3 cr3 zAq x.Neg.Counts).H Z w:=by
 obtain ⟨_,_,rfl,⟨rfl,_⟩,⟨_,_,rfl,⟨rfl,_⟩,⟨_,_,rfl,⟨_,_,rfl,⟨rfl,_⟩,⟨Ar1,cr1,rfl,p1,q1,s1⟩⟩,⟨_,_,rfl,⟨rfl,_⟩,⟨Ar3,cr3,rfl,p3,q3,s3⟩⟩⟩⟩⟩:=h;exact ⟨Ar1,cr1,Ar3,cr3,rfl,⟨p1,q1,s1⟩,⟨p3,q3,s3⟩⟩
theorem zA8.relE {Z:Nat→Prop} {w:World} {vs:List Value} {x:zA8} (h:zA8.rep.rel Z w vs x):∃ (Ar1:Option Addr) (cr1:Nat) (Ar3:Option Addr) (cr3:Nat) (Ar5:Option Addr) (cr5:Nat),vs=[Str (x.Name),.slice Ar1 (x.Attrs).length cr1,iv x.Kind,iv x.Temp,.bool (x.Mono),iv x.Start,iv x.Time,iv x.Int_,zAn x.Re,zAn x.Im,iv x.Hist.Scale,zAn x.Hist.Zero,iv x.Hist.Pos.Offset,.slice Ar3 (x.Hist.Pos.Counts).length cr3,iv x.Hist.Neg.Offset,.slice Ar5 (x.Hist.Neg.Counts).length cr5,iv x.Flags]∧(slR Ar1 cr1 zA0.rep x.Attrs).H Z w∧(slR Ar3 cr3 zAq x.Hist.Pos.Counts).H Z w∧(slR Ar5 cr5 zAq x.Hist.Neg.Counts).H Z w:=by
 obtain ⟨_,_,rfl,⟨rfl,_⟩,⟨_,_,rfl,⟨Ar1,cr1,rfl,p1,q1,s1⟩,⟨_,_,rfl,⟨rfl,_⟩,⟨_,_,rfl,⟨rfl,_⟩,⟨_,_,rfl,⟨rfl,_⟩,⟨_,_,rfl,⟨rfl,_⟩,⟨_,_,rfl,⟨rfl,_⟩,⟨_,_,rfl,⟨rfl,_⟩,⟨_,_,rfl,⟨rfl,_⟩,⟨_,_,rfl,⟨rfl,_⟩,⟨_,_,rfl,⟨_,_,rfl,⟨rfl,_⟩,⟨_,_,rfl,⟨rfl,_⟩,⟨_,_,rfl,⟨_,_,rfl,⟨rfl,_⟩,⟨Ar3,cr3,rfl,p3,q3,s3⟩⟩,⟨_,_,rfl,⟨rfl,_⟩,⟨Ar5,cr5,rfl,p5,q5,s5⟩⟩⟩⟩⟩,⟨rfl,_⟩⟩⟩⟩⟩⟩⟩⟩⟩⟩⟩⟩:=h;exact ⟨Ar1,cr1,Ar3,cr3,Ar5,cr5,rfl,⟨p1,q1,s1⟩,⟨p3,q3,s3⟩,⟨p5,q5,s5⟩⟩
theorem zAc.relE {Z:Nat→Prop} {w:World} {vs:List Value} {x:zAc} (h:zAc.rep.rel Z w vs x):∃ (Ar1:Option Addr) (cr1:Nat) (Ar3:Option Addr) (cr3:Nat) (Ar5:Option Addr) (cr5:Nat),vs=[iv x.Ord,Str (x.Point.Name),.slice Ar1 (x.Point.Attrs).length cr1,iv x.Point.Kind,iv x.Point.Temp,.bool (x.Point.Mono),iv x.Point.Start,iv x.Point.Time,iv x.Point.Int_,zAn x.Point.Re,zAn x.Point.Im,iv x.Point.Hist.Scale,zAn x.Point.Hist.Zero,iv x.Point.Hist.Pos.Offset,.slice Ar3 (x.Point.Hist.Pos.Counts).length cr3,iv x.Point.Hist.Neg.Offset,.slice Ar5 (x.Point.Hist.Neg.Counts).length cr5,iv x.Point.Flags]∧(slR Ar1 cr1 zA0.rep x.Point.Attrs).H Z w∧(slR Ar3 cr3 zAq x.Point.Hist.Pos.Counts).H Z w∧(slR Ar5 cr5 zAq x.Point.Hist.Neg.Counts).H Z w:=by
 obtain ⟨_,_,rfl,⟨rfl,_⟩,⟨_,_,rfl,⟨rfl,_⟩,⟨_,_,rfl,⟨Ar1,cr1,rfl,p1,q1,s1⟩,⟨_,_,rfl,⟨rfl,_⟩,⟨_,_,rfl,⟨rfl,_⟩,⟨_,_,rfl,⟨rfl,_⟩,⟨_,_,rfl,⟨rfl,_⟩,⟨_,_,rfl,⟨rfl,_⟩,⟨_,_,rfl,⟨rfl,_⟩,⟨_,_,rfl,⟨rfl,_⟩,⟨_,_,rfl,⟨rfl,_⟩,⟨_,_,rfl,⟨_,_,rfl,⟨rfl,_⟩,⟨_,_,rfl,⟨rfl,_⟩,⟨_,_,rfl,⟨_,_,rfl,⟨rfl,_⟩,⟨Ar3,cr3,rfl,p3,q3,s3⟩⟩,⟨_,_,rfl,⟨rfl,_⟩,⟨Ar5,cr5,rfl,p5,q5,s5⟩⟩⟩⟩⟩,⟨rfl,_⟩⟩⟩⟩⟩⟩⟩⟩⟩⟩⟩⟩⟩:=h;exact ⟨Ar1,cr1,Ar3,cr3,Ar5,cr5,rfl,⟨p1,q1,s1⟩,⟨p3,q3,s3⟩,⟨p5,q5,s5⟩⟩
theorem zAd.relE {Z:Nat→Prop} {w:World} {vs:List Value} {x:zAd} (h:zAd.rep.rel Z w vs x):∃ (Ar1:Option Addr) (cr1:Nat),vs=[.slice Ar1 (x.L).length cr1,iv x.W.From,iv x.W.Size]∧(slR Ar1 cr1 zAq x.L).H Z w:=by
 obtain ⟨_,_,rfl,⟨Ar1,cr1,rfl,p1,q1,s1⟩,⟨_,_,rfl,⟨rfl,_⟩,⟨rfl,_⟩⟩⟩:=h;exact ⟨Ar1,cr1,rfl,⟨p1,q1,s1⟩⟩
theorem el3:zSo prog 3 1 8:=zPh (by kernel_rfl) (by decide)
theorem el5:zSo prog 5 1 1:=zPh (by kernel_rfl) (by decide)
theorem zVc:zSo prog 35 1 8:=zPh (by kernel_rfl) (by decide)
theorem el38:zSo prog 38 2 32:=zPh (by kernel_rfl) (by decide)
theorem el40:zSo prog 40 6 80:=zPh (by kernel_rfl) (by decide)
theorem zh4:zSo prog 44 18 200:=zPh (by kernel_rfl) (by decide)
theorem zXz:zSo prog 118 2 32:=zPh (by kernel_rfl) (by decide)
set_option maxRecDepth 20000 in
theorem zc6 {Z0:Nat→Prop} (w:World) (A:Option Addr) (c:Nat) (l:List UInt8) {r:List UInt8} (h:(slR A c zBu l).H Z0 w) (Y:zDu [] l=some r) :
 Calls prog 75 #[.slice A l.length c] w λx w'=>∃ A' c',x=.returned (.slice A' r.length c')∧Hp Z0 No w w' [zAy 5 A' c' zBu r]:=by
 have D0:=Hp.nil Z0 No w;have D1:=D0.know (slR A c zBu l) (λ_ h=>h) (D0.in0 Calm.nil h);refine Rn.enter func75 rfl rfl (nbl rfl) ?_;refine Rn.seq (Rn.reg (Rn.v rfl rfl rfl rfl (V.as rfl) (Rn.regEnd (Rn.seq (Rn.seq (Rn.reg (Rn.v rfl rfl rfl rfl (V.mv rfl) (Rn.v rfl rfl rfl rfl (V.eqlV U22 rfl rfl) (Rn.regEnd ?_)))))))))
 cases A with
 | none=>
  obtain rfl:=zSh h;obtain ⟨_,rfl⟩:=zdk Y;refine Rn.condT rfl (Rn.seq (Rn.reg (Rn.v rfl rfl rfl rfl (V.as rfl) (Rn.regEnd ?_))));refine Rn.retG1 func75 rfl (rvT rfl) ?_;exact ⟨none,0,rfl,(D0.addNil 5 zBu)⟩
 | some a=>
  refine Rn.condF rfl (Rn.skip (Rn.seq (Rn.reg ?_)));refine Rn.bslS (ps:=[]) (us:=[]) rfl rfl rfl U22 el5 rfl rfl rfl rfl (by simp) (by decide) ?_;intro b2 w2 hb2 m2 e2;have D2:=D1.addLit (rep:=zBu) (xs:=([]:List UInt8)) (vss:=[]) hb2 e2 m2 rfl rfl rfl zO4;refine Rn.v rfl rfl rfl rfl (V.mv rfl) (Rn.appH D2 1 rfl Y rfl rfl rfl U22 el5 rfl rfl rfl rfl (D2.src 0 rfl) ?_);intro A3 c3 w3 D3;refine Rn.v rfl rfl rfl rfl (V.as rfl) (Rn.regEnd ?_);refine Rn.retG1 func75 rfl (rvT rfl) ?_;exact ⟨A3,c3,rfl,D3.pick [1] rfl (by decide)⟩
set_option maxRecDepth 20000 in
theorem zc5 {Z0:Nat→Prop} (w:World) (A:Option Addr) (c:Nat) (l:List zA0) {r:List zA0} (h:(slR A c zA0.rep l).H Z0 w) (Y:zDu [] l=some r) :
 Calls prog 89 #[.slice A l.length c] w λx w'=>∃ A' c',x=.returned (.slice A' r.length c')∧Hp Z0 No w w' [zAy 118 A' c' zA0.rep r]:=by
 have D0:=Hp.nil Z0 No w;have D1:=D0.know (slR A c zA0.rep l) (λ_ h=>h) (D0.in0 Calm.nil h);refine Rn.enter func89 rfl rfl (nbl rfl) ?_;refine Rn.seq (Rn.reg (Rn.v rfl rfl rfl rfl (V.as rfl) (Rn.regEnd (Rn.seq (Rn.seq (Rn.reg (Rn.v rfl rfl rfl rfl (V.mv rfl) (Rn.v rfl rfl rfl rfl (V.eqlV U34 rfl rfl) (Rn.regEnd ?_)))))))))
 cases A with
 | none=>
  obtain rfl:=zSh h;obtain ⟨_,rfl⟩:=zdk Y;refine Rn.condT rfl (Rn.seq (Rn.reg (Rn.v rfl rfl rfl rfl (V.as rfl) (Rn.regEnd ?_))));refine Rn.retG1 func89 rfl (rvT rfl) ?_;exact ⟨none,0,rfl,(D0.addNil 118 zA0.rep)⟩
 | some a=>
  refine Rn.condF rfl (Rn.skip (Rn.seq (Rn.reg ?_)));refine Rn.bslS (ps:=[]) (us:=[]) rfl rfl rfl U34 zXz rfl rfl rfl rfl (by simp) (by decide) ?_;intro b2 w2 hb2 m2 e2;have D2:=D1.addLit (rep:=zA0.rep) (xs:=([]:List zA0)) (vss:=[]) hb2 e2 m2 rfl rfl rfl zO4;refine Rn.v rfl rfl rfl rfl (V.mv rfl) (Rn.appH D2 1 rfl Y rfl rfl rfl U34 zXz rfl rfl rfl rfl (D2.src 0 rfl) ?_);intro A3 c3 w3 D3;refine Rn.v rfl rfl rfl rfl (V.as rfl) (Rn.regEnd ?_);refine Rn.retG1 func89 rfl (rvT rfl) ?_;exact ⟨A3,c3,rfl,D3.pick [1] rfl (by decide)⟩
set_option maxRecDepth 20000 in
theorem zZz {Z0:Nat→Prop} (w:World) (A:Option Addr) (c:Nat) (l:List UInt64) {r:List UInt64} (h:(slR A c zAq l).H Z0 w) (Y:zDu [] l=some r) :
 Calls prog 148 #[.slice A l.length c] w λx w'=>∃ A' c',x=.returned (.slice A' r.length c')∧Hp Z0 No w w' [zAy 35 A' c' zAq r]:=by
 have D0:=Hp.nil Z0 No w;have D1:=D0.know (slR A c zAq l) (λ_ h=>h) (D0.in0 Calm.nil h);refine Rn.enter func148 rfl rfl (nbl rfl) ?_;refine Rn.seq (Rn.reg (Rn.v rfl rfl rfl rfl (V.as rfl) (Rn.regEnd (Rn.seq (Rn.seq (Rn.reg (Rn.v rfl rfl rfl rfl (V.mv rfl) (Rn.v rfl rfl rfl rfl (V.eqlV U36 rfl rfl) (Rn.regEnd ?_)))))))))
 cases A with
 | none=>
  obtain rfl:=zSh h;obtain ⟨_,rfl⟩:=zdk Y;refine Rn.condT rfl (Rn.seq (Rn.reg (Rn.v rfl rfl rfl rfl (V.as rfl) (Rn.regEnd ?_))));refine Rn.retG1 func148 rfl (rvT rfl) ?_;exact ⟨none,0,rfl,(D0.addNil 35 zAq)⟩
 | some a=>
  refine Rn.condF rfl (Rn.skip (Rn.seq (Rn.reg ?_)));refine Rn.bslS (ps:=[]) (us:=[]) rfl rfl rfl U36 zVc rfl rfl rfl rfl (by simp) (by decide) ?_;intro b2 w2 hb2 m2 e2;have D2:=D1.addLit (rep:=zAq) (xs:=([]:List UInt64)) (vss:=[]) hb2 e2 m2 rfl rfl rfl zO4;refine Rn.v rfl rfl rfl rfl (V.mv rfl) (Rn.appH D2 1 rfl Y rfl rfl rfl U36 zVc rfl rfl rfl rfl (D2.src 0 rfl) ?_);intro A3 c3 w3 D3;refine Rn.v rfl rfl rfl rfl (V.as rfl) (Rn.regEnd ?_);refine Rn.retG1 func148 rfl (rvT rfl) ?_;exact ⟨A3,c3,rfl,D3.pick [1] rfl (by decide)⟩
set_option maxRecDepth 20000 in
theorem zcb (b:Nat) (p:Option Addr) (v:Value) (w:World) (hp:p=none∨p=some ⟨b,0,none⟩) (hB:Blk w b 226 [.pointer p,v]) :
 Calls prog 211 #[.pointer (some ⟨b,0,none⟩)] w λx w'=>x=.returned (.tuple #[])∧Blk w' b 226 [.pointer (some ⟨b,0,none⟩),v]∧Fr (λx=>x=b) w w':=by
 have hsz:(prog.info? 226).map (·.size)=some 2:=by kernel_rfl
 obtain ⟨j,hj,hjs0⟩:=Option.map_eq_some_iff.1 hsz
 have hjs:j.size≠0:=by rw [hjs0];decide
 refine Rn.enter func211 rfl rfl (nbl rfl) ?_;refine Rn.seq (Rn.reg (Rn.v rfl rfl rfl rfl (V.mv rfl) (Rn.v rfl rfl rfl rfl (V.nil rfl) (Rn.v rfl rfl rfl rfl (V.fa U226 rfl O224 rfl rfl) (Rn.v rfl rfl rfl rfl (V.ldB V224 rfl hB rfl) (Rn.v rfl rfl rfl rfl (V.eqlP U224 rfl rfl) (Rn.regEnd ?_)))))))
 rcases hp with rfl|rfl
 refine Rn.condT rfl (Rn.reg (Rn.v rfl rfl rfl rfl (V.mv rfl) (Rn.v rfl rfl rfl rfl (V.mv rfl) (Rn.v rfl rfl rfl rfl (V.toUns U224 U267 hj hjs rfl hB (by simp)) (Rn.v rfl rfl rfl rfl (V.noEsc func230 (by kernel_rfl) (by kernel_rfl) (by kernel_rfl) (by kernel_rfl) rfl) (Rn.v rfl rfl rfl rfl (V.fromUns U267 U224 hj rfl hB (by kernel_rfl)) (Rn.v rfl rfl rfl rfl (V.nil rfl) (Rn.v rfl rfl rfl rfl (V.fa U226 rfl O224 rfl rfl) (Rn.st rfl rfl O224 rfl rfl rfl rfl (by first|exact zJx rfl|(simp [Value.oneCell'];done)) hB (by first|exact nbl rfl|(simp;done)) ?_)))))))));intro w1 m1 x1;have e1:Fr (λx=>x=b) w w1:=((Fr.refl _ _)).trans' x1 (λx hx=>by first | exact .inl hx | exact .inr (by subst hx;omega));refine Rn.regEnd ?_;refine Rn.end0 func211 rfl ?_;exact ⟨rfl,m1,x1⟩;refine Rn.condF rfl (Rn.seq (Rn.reg (Rn.v rfl rfl rfl rfl (V.mv rfl) (Rn.v rfl rfl rfl rfl (V.nil rfl) (Rn.v rfl rfl rfl rfl (V.fa U226 rfl O224 rfl rfl) (Rn.v rfl rfl rfl rfl (V.ldB V224 rfl hB rfl) (Rn.v rfl rfl rfl rfl (V.mv rfl) (Rn.v rfl rfl rfl rfl (V.neqSame U224 hj rfl rfl) (Rn.regEnd (Rn.condF rfl (Rn.skip ?_)))))))))));refine Rn.end0 func211 rfl ?_;exact ⟨rfl,hB,Fr.refl _ _⟩
set_option maxRecDepth 20000 in
theorem zdj {Z0:Nat→Prop} (w:World) (b:Nat) (A:Option Addr) (c:Nat) (l s:List UInt8) {z:List UInt8} (hL:zKt Z0 w [zah 226 5 b A c l]) (hz:zDu l s=some z) :
 Calls prog 171 #[.pointer (some ⟨b,0,none⟩),Str s] w λx w'=>∃ A' c',x=.returned (.tuple #[.int .i64 s.length,.nilIface])∧Hp Z0 (LS [zah 226 5 b A c l]) w w' [zah 226 5 b A' c' z]:=by
 obtain ⟨hle,rfl⟩:=zdk hz;have D0:=hL.start;obtain ⟨p,hp,hB,hO,hne,hnil⟩:=D0.get 0 rfl;refine Rn.enter func171 rfl rfl (nbl rfl) ?_;refine Rn.seq (Rn.reg (Rn.v rfl rfl rfl rfl (V.as rfl) (Rn.v rfl rfl rfl rfl (V.as rfl) (Rn.regEnd (Rn.seq (Rn.reg (Rn.v rfl rfl rfl rfl (V.mv rfl) (Rn.cl (cK func211) rfl rfl rfl rfl (zcb b p _ _ hp hB) ?_))))))));rintro _ w1 ⟨rfl,mB1,x1⟩;have e1:Fr (λx=>x=b∨ob A x) w w1:=((Fr.refl _ _)).trans' x1 (λx hx=>by first | exact .inl (.inl hx) | exact .inl (.inr hx));refine ⟨_,rfl,?_⟩;refine Rn.regEnd (Rn.seq (Rn.reg (Rn.v rfl rfl rfl rfl (V.mv rfl) (Rn.v rfl rfl rfl rfl (V.mv rfl) (Rn.v rfl rfl rfl rfl (V.nil rfl) (Rn.v rfl rfl rfl rfl (V.fa U226 rfl O22 rfl rfl) (Rn.v rfl rfl rfl rfl (V.ldB V22 rfl mB1 rfl) (Rn.v rfl rfl rfl rfl (V.mv rfl) ?_))))))));have hO2:=hO.fr x1 (λ_ h=>h.elim) (λx hx hh=>hne (hh▸hx));refine Rn.appS rfl rfl rfl U22 U9 el5 rfl rfl hO2 hle ?_;intro A2 c2 w2 o2 x2 q2 n2;have e2:Fr (λx=>x=b∨ob A x) w w2:=(e1).trans' x2 (λx hx=>by first | exact .inl (.inl hx) | exact .inl (.inr hx));refine Rn.v rfl rfl rfl rfl (V.nil rfl) (Rn.v rfl rfl rfl rfl (V.fa U226 rfl O22 rfl rfl) (Rn.st rfl rfl O22 rfl rfl rfl rfl (by first|exact zJx rfl|(simp [Value.oneCell'];done)) (mB1.fr x2 hne) (by first|exact nbl rfl|(simp;done)) ?_));intro w3 m3 x3;have e3:Fr (λx=>x=b∨ob A x) w w3:=(e2).trans' x3 (λx hx=>by first | exact .inl (.inl hx) | exact .inl (.inr hx));refine Rn.regEnd (Rn.seq (Rn.reg (Rn.v rfl rfl rfl rfl (V.mv rfl) (Rn.v rfl rfl rfl rfl (V.lenS U9 rfl) (Rn.v rfl rfl rfl rfl (V.as rfl) (Rn.v rfl rfl rfl rfl (V.as rfl) (Rn.regEnd ?_)))))));refine Rn.ret2 func171 rfl rfl rfl ?_;have hsz:=x1.size;have hlt:=mB1.lt
 have hnb:¬ob A2 b:=λhh=>by rcases q2 b hh with h | h;exact hne h;omega
 exact ⟨A2,c2,rfl,D0.upd 0 (zah 226 5 b A2 c2 (l++s)) rfl (((x1.mono λy hy=>.inl hy).trans (x2.mono λy hy=>.inr hy)).trans (x3.mono λy hy=>.inl hy)) (λx hx=>by rcases hx with hx|hx;exact .inl (.inl hx);rcases q2 x hx with h|h;exact .inl (.inr h);exact .inr (by omega)) (λ_ _ _=>⟨_,.inr rfl,m3,o2.fr x3 (λ_ h=>h.elim) (λx hx hh=>hnb (hh▸hx)),hnb,λh=>n2 h (hnil (List.append_eq_nil_iff.1 h).1)⟩)⟩
set_option maxRecDepth 20000 in
theorem zfa {Z0:Nat→Prop} (w:World) (b:Nat) (A:Option Addr) (c:Nat) (l:List UInt8) (hL:zKt Z0 w [zah 226 5 b A c l]) :
 Calls prog 173 #[.pointer (some ⟨b,0,none⟩)] w λx w'=>x=.returned (Str l)∧Hp Z0 (LS [zah 226 5 b A c l]) w w' []:=by
 have D0:=hL.start.ext (Ext.drew w);obtain ⟨p,hp,hB,hO,hne,hnil⟩:=D0.get 0 rfl;refine Rn.enter func173 rfl rfl (nbl rfl) ?_;refine Rn.seq (Rn.reg (Rn.v rfl rfl rfl rfl (V.as rfl) (Rn.regEnd (Rn.seq ?_))));refine Rn.draw (λw'=>Blk w' b 226 [.pointer p,.slice A l.length c]) rfl hB ?_;refine RH.take 0 (by kernel_rfl) rfl rfl rfl rfl (λw' hDr=>V.mv rfl) ?_;refine RH.take 1 (by kernel_rfl) rfl rfl rfl rfl (λw' hDr=>V.nil rfl) ?_;refine RH.take 2 (by kernel_rfl) rfl rfl rfl rfl (λw' hDr=>V.fa U226 rfl O22 rfl rfl) ?_;refine RH.take 3 (by kernel_rfl) rfl rfl rfl rfl (λw' hDr=>V.ldB V22 rfl hDr rfl) ?_;refine RH.take 4 (by kernel_rfl) rfl rfl rfl rfl (λw' hDr=>uData rfl hO hnil w') ?_;refine RH.take 5 (by kernel_rfl) rfl rfl rfl rfl (λw' hDr=>V.mv rfl) ?_;refine RH.take 6 (by kernel_rfl) rfl rfl rfl rfl (λw' hDr=>V.nil rfl) ?_;refine RH.take 7 (by kernel_rfl) rfl rfl rfl rfl (λw' hDr=>V.fa U226 rfl O22 rfl rfl) ?_;refine RH.take 8 (by kernel_rfl) rfl rfl rfl rfl (λw' hDr=>V.ldB V22 rfl hDr rfl) ?_;refine RH.take 9 (by kernel_rfl) rfl rfl rfl rfl (λw' hDr=>V.lenV U22 rfl) ?_;obtain ⟨w2,hr,hF⟩:=zao (P:=prog) (ty:=9) (pt:=258) (it:=3) U258 (by kernel_rfl:prog.cellsOf 5=1) hO hnil;refine RH.one 10 (by kernel_rfl) rfl rfl rfl rfl (V.uStr hr rfl rfl) (hB.fr hF hne) ?_;refine RH.take 11 (by kernel_rfl) rfl rfl rfl rfl (λw' hDr=>V.as rfl) ?_;refine RH.doneP (by kernel_rfl) ?_;refine Rn.retG1 func173 rfl (rvT rfl) ?_;exact ⟨rfl,D0.end1 (hF.mono λy hy=>.inr hy)⟩
theorem eq118 (a b:zA0) (w:World):(Op.equalIn 10000 118 (.agg [Str (a.Key),Str (a.Val)].toArray) (.agg [Str (b.Key),Str (b.Val)].toArray)).run prog w=.ok (decide (a=b)) w:=by
 refine zVw (p:=a=b) (by kernel_rfl) U118 Tryz.stoodInHeld118 (zLc rfl V9 rfl rfl (eqS w a.Key b.Key U9) (zLc rfl V9 rfl rfl (eqS w a.Val b.Val U9) zVx)) ?_
 cases a;cases b;simp only [zA0.mk.injEq,and_true]
theorem zf (a b:zB) (w:World):(Op.equalIn 10000 188 (.agg [iv a.ahead,iv a.size].toArray) (.agg [iv b.ahead,iv b.size].toArray)).run prog w=.ok (decide (a=b)) w:=by
 refine zVw (p:=a=b) (by kernel_rfl) U188 Tryz.stoodInHeld188 (zLc rfl V3 rfl rfl (eqI w a.ahead b.ahead U3) (zLc rfl V3 rfl rfl (eqI w a.size b.size U3) zVx)) ?_
 cases a;cases b;simp only [zB.mk.injEq,and_true]
theorem zh3 (a b:zFn) (w:World):(Op.equalIn 10000 206 (.agg [iv a.scale,iv a.posAt,iv a.posSize,iv a.negAt,iv a.negSize].toArray) (.agg [iv b.scale,iv b.posAt,iv b.posSize,iv b.negAt,iv b.negSize].toArray)).run prog w=.ok (decide (a=b)) w:=by
 refine zVw (p:=a=b) (by kernel_rfl) U206 Tryz.stoodInHeld206 (zLc rfl V3 rfl rfl (eqI w a.scale b.scale U3) (zLc rfl V3 rfl rfl (eqI w a.posAt b.posAt U3) (zLc rfl V3 rfl rfl (eqI w a.posSize b.posSize U3) (zLc rfl V3 rfl rfl (eqI w a.negAt b.negAt U3) (zLc rfl V3 rfl rfl (eqI w a.negSize b.negSize U3) zVx))))) ?_
 cases a;cases b;simp only [zFn.mk.injEq,and_true]
theorem zN7 {x0:UInt8} {r:Bool} (Y:zIf x0=some r)  :
 Calls prog 162 #[u8v x0] w λx w'=>x=.returned (.bool (r))∧Hp Z0 No w w' []:=by
 have D0:=Hp.nil Z0 No w;have hc0:=Calm.nil;refine eg func162 7 ?_;refine Rn.q rfl (V.geq rfl rfl) (gg 1 rfl ?_);refine Rn.cutR [6] [(8,.bool (decide ((((x0).toNat:Int)≥97)∧(((x0).toNat:Int)≤122))))] (λK1=>?_) ?_
 ·refine Rn.partD (t:=5) rfl (λh2=>?_) (λh2=>?_)
  ·refine gg 1 rfl (Rn.q rfl (V.leq rfl rfl) (gg 1 rfl ?_));exact K1 _ sA
  refine gg 3 rfl ?_;exact K1 _ sA
 refine gg 2 rfl ?_
 cases Y
 exact Rn.R1 func162 ⟨rfl,D0.pk []⟩
theorem zHx {x0:(List UInt8)} {r:Bool} (Y:zG2 x0=some r)  :
 Calls prog 103 #[Str (x0)] w λx w'=>x=.returned (.bool (r))∧Hp Z0 No w w' []:=by
 have D0:=Hp.nil Z0 No w;have hc0:=Calm.nil;refine eg func103 8 ?_;refine Rn.q rfl (V.eqlS rfl rfl) (gg 1 rfl ?_);refine Rn.cutR [7,8,9,10,11,12] [(0,Str (x0)),(11,.bool (decide ((x0=([]:List UInt8))∨((x0.length:Int)>32))))] (λK1=>?_) ?_
 ·refine Rn.partD (t:=7) rfl (λh2=>?_) (λh2=>?_)
  ·refine gg 4 rfl ?_;exact K1 _ sA
  refine gg 1 rfl (Rn.q rfl (V.lenS U9 rfl) (gg 2 rfl ?_));exact K1 _ sA
 refine gg 1 rfl ?_;refine Rn.jR D0 Y (G:=Bool) [] (λg=>[(0,Str (x0)),(17,.bool (g))]) (λg=>[]) (λj g=>j g) ?_ ?_
 ·rintro y3 w4 D4 Y
  try dsimp only at Y
  refine gg 1 rfl ?_;refine bS Y 4 5 (λh5 Y=>?_) (λh5 Y=>?_)
  ·cases Y
   exact Rn.R1 func103 ⟨rfl,D4.pk []⟩
  obtain ⟨z6,e6,Y⟩:=zA7 Y;refine Rn.s2bH D4 e6 rfl rfl rfl U9 U22 U5 rfl ?_;intro A6 c6 w6 D6;refine Rn.q rfl (V.lenV U22 rfl) (gg 2 rfl ?_);refine Rn.jG D0 Y (G:=Unit) (λg=>[]) (λg=>[]) (λj g=>j ()) ?_ ?_
  ·rintro _ w8 D8 Y
   try dsimp only at Y
   refine gg 4 rfl ?_
   cases Y
   exact Rn.R1 func103 ⟨rfl,D8.pk []⟩
  intro j2 Y K2;refine gg 1 rfl ?_;refine Rn.loopF (G:=Int) (λg=>[(19,.slice A6 (z6).length c6),(20,iv (z6.length:Int)),(21,iv g)]) (λg w'=>Hp Z0 No w w' [slR A6 c6 zBu z6]) (λn g=>zEz z6 j2 n g) fuel 0 sA (D6.pk [0]) Y (λ_=>rfl) ?_;clear Y;rintro m10 y9 w10 D10 Y N10;replace Y:zEz z6 j2 (m10+1) y9=some r:=Y;rw [zEz] at Y;refine gg 5 rfl ?_;refine bD Y 5 1 (λh11 Y=>?_) (λh11 Y=>?_)
  ·obtain ⟨z12,e12,Y⟩:=zA7 Y;refine Rn.ixH D10 0 rfl e12 rfl rfl rfl U22 O5 rfl rfl rfl rfl ?_;rintro b12 o12 vs12 ⟨rfl,_⟩ D12;refine Rn.q rfl (V.ldR0 V5 rfl (D12.get 1 rfl).2 rfl) (gg 5 rfl ?_);obtain ⟨p14,e14,Y⟩:=zA7 Y
   refine Rn.c0 (cK func162) (zN7 (Z0:=All) e14  :) D12 λw14 _ D15=>?_
   refine Rn.q rfl (V.notB rfl) (gg 1 rfl ?_);refine Rn.cutR [11,12,13,14,15,16,17,18] [(4,u8v z12),(19,.slice A6 (z6).length c6),(20,iv (z6.length:Int)),(21,iv y9),(35,.bool (decide (((!p14)=true)∧((((z12).toNat:Int)<48)∨(((z12).toNat:Int)>57)))))] (λK16=>?_) ?_
   ·refine Rn.part (t:=28) rfl (λh17=>?_) (λh17=>?_)
    ·refine gg 1 rfl (Rn.q rfl (V.lss rfl rfl) (gg 1 rfl ?_));refine Rn.cutR [10,11,12,13,14,15,16,17,18] [(4,u8v z12),(19,.slice A6 (z6).length c6),(20,iv (z6.length:Int)),(21,iv y9),(28,.bool true),(34,.bool (decide ((((z12).toNat:Int)<48)∨(((z12).toNat:Int)>57))))] (λK18=>?_) ?_
     ·refine Rn.partD (t:=31) rfl (λh19=>?_) (λh19=>?_)
      ·refine gg 3 rfl ?_;exact K18 _ sA
      refine gg 1 rfl (Rn.q rfl (V.gtr rfl rfl) (gg 1 rfl ?_));exact K18 _ sA
     refine gg 1 rfl ?_;exact K16 _ sA
    refine gg 7 rfl ?_;exact K16 _ sA
   refine gg 1 rfl ?_;refine Rn.cutR [15,16,17,18] [(4,u8v z12),(19,.slice A6 (z6).length c6),(20,iv (z6.length:Int)),(21,iv y9),(39,.bool (decide ((((!p14)=true)∧((((z12).toNat:Int)<48)∨(((z12).toNat:Int)>57)))∧(((z12).toNat:Int)≠95))))] (λK20=>?_) ?_
   ·refine Rn.partD (t:=36) rfl (λh21=>?_) (λh21=>?_)
    ·refine gg 1 rfl (Rn.q rfl (V.neq rfl rfl) (gg 1 rfl ?_));exact K20 _ sA
    refine gg 3 rfl ?_;exact K20 _ sA
   refine gg 1 rfl ?_;refine Rn.cutR [] [(19,.slice A6 (z6).length c6),(20,iv (z6.length:Int)),(21,iv y9),(43,.bool (decide (((((!p14)=true)∧((((z12).toNat:Int)<48)∨(((z12).toNat:Int)>57)))∧(((z12).toNat:Int)≠95))∧(((z12).toNat:Int)≠46))))] (λK22=>?_) ?_
   ·refine Rn.partD (t:=40) rfl (λh23=>?_) (λh23=>?_)
    ·refine gg 1 rfl (Rn.q rfl (V.neq rfl rfl) (gg 1 rfl ?_));exact K22 _ sA
    refine gg 3 rfl ?_;exact K22 _ sA
   refine gg 1 rfl ?_;refine bD Y 4 6 (λh24 Y=>?_) (λh24 Y=>?_)
   ·cases Y
    exact Rn.R1 func103 ⟨rfl,D15.pk []⟩
   exact N10 (W64 (y9+1)) _ _ sA (D15.pk [0]) Y
  exact K2 () _ _ (sb trivial) (D10.pk []) Y
 intro j1 Y K1;refine zKs Y (Rn.partD (t:=12) rfl) (λh25 Y=>?_) (λh25 Y=>?_)
 ·refine gg 5 rfl ?_;exact K1 true _ _ sA (D0.pk []) Y
 refine gg 1 rfl ?_;obtain ⟨z26,e26,Y⟩:=zA7 Y;refine Rn.q rfl (V.idxSZ U9 rfl rfl e26) ?_;obtain ⟨p27,e27,Y⟩:=zA7 Y
 refine Rn.c0 (cK func162) (zN7 (Z0:=All) e27  :) D0 λw27 _ D28=>?_
 refine Rn.q rfl (V.notB rfl) (gg 1 rfl ?_);exact K1 (!p27) _ _ sA (D28.pk []) Y
theorem zLy {x0:(List UInt8)} {r:Bool} (Y:zH9 x0=some r)  :
 Calls prog 163 #[Str (x0)] w λx w'=>x=.returned (.bool (r))∧Hp Z0 No w w' []:=by
 have D0:=Hp.nil Z0 No w;have hc0:=Calm.nil;refine eg func163 8 ?_;refine Rn.q rfl (V.eqlS rfl rfl) (gg 1 rfl ?_);refine Rn.cutR [] [(0,Str (x0)),(11,.bool (decide ((x0=([]:List UInt8))∨((x0.length:Int)>32))))] (λK1=>?_) ?_
 ·refine Rn.partD (t:=7) rfl (λh2=>?_) (λh2=>?_)
  ·refine gg 4 rfl ?_;exact K1 _ sA
  refine gg 1 rfl (Rn.q rfl (V.lenS U9 rfl) (gg 2 rfl ?_));exact K1 _ sA
 refine gg 1 rfl ?_;refine bD Y 4 5 (λh3 Y=>?_) (λh3 Y=>?_)
 ·cases Y
  exact Rn.R1 func163 ⟨rfl,D0.pk []⟩
 obtain ⟨z4,e4,Y⟩:=zA7 Y;refine Rn.s2bH D0 e4 rfl rfl rfl U9 U22 U5 rfl ?_;intro A4 c4 w4 D4;refine Rn.q rfl (V.lenV U22 rfl) (gg 2 rfl ?_);refine Rn.jG D0 Y (G:=Unit) (λg=>[]) (λg=>[]) (λj g=>j ()) ?_ ?_
 ·rintro _ w6 D6 Y
  try dsimp only at Y
  refine gg 4 rfl ?_
  cases Y
  exact Rn.R1 func163 ⟨rfl,D6.pk []⟩
 intro j1 Y K1;refine gg 1 rfl ?_;refine Rn.loopF (G:=Int) (λg=>[(13,.slice A4 (z4).length c4),(14,iv (z4.length:Int)),(15,iv g)]) (λg w'=>Hp Z0 No w w' [slR A4 c4 zBu z4]) (λn g=>zEc z4 j1 n g) fuel 0 sA (D4.pk [0]) Y (λ_=>rfl) ?_;clear Y;rintro m8 y7 w8 D8 Y N8;replace Y:zEc z4 j1 (m8+1) y7=some r:=Y;rw [zEc] at Y;refine gg 5 rfl ?_;refine bD Y 5 1 (λh9 Y=>?_) (λh9 Y=>?_)
 ·obtain ⟨z10,e10,Y⟩:=zA7 Y;refine Rn.ixH D8 0 rfl e10 rfl rfl rfl U22 O5 rfl rfl rfl rfl ?_;rintro b10 o10 vs10 ⟨rfl,_⟩ D10;refine Rn.q rfl (V.ldR0 V5 rfl (D10.get 1 rfl).2 rfl) (gg 7 rfl (Rn.q rfl (V.lss rfl rfl) (gg 2 rfl ?_)));refine Rn.jG D0 Y (G:=Bool) (λg=>[(13,.slice A4 (z4).length c4),(14,iv (z4.length:Int)),(15,iv y7),(19,.bool (g))]) (λg=>[slR A4 c4 zBu z4]) (λj g=>j g) ?_ ?_
  ·rintro y12 w13 D13 Y
   try dsimp only at Y
   refine bS Y 4 7 (λh14 Y=>?_) (λh14 Y=>?_)
   ·cases Y
    exact Rn.R1 func163 ⟨rfl,D13.pk []⟩
   exact N8 (W64 (y7+1)) _ _ sA (D13.pk [0]) Y
  intro j2 Y K2;refine bD Y 1 3 (λh15 Y=>?_) (λh15 Y=>?_)
  ·exact K2 (decide (((z10).toNat:Int)<33)) _ _ sA (D10.pk [0]) Y
  refine Rn.q rfl (V.gtr rfl rfl) (gg 2 rfl ?_);refine bD Y 1 3 (λh16 Y=>?_) (λh16 Y=>?_)
  ·exact K2 (decide (((z10).toNat:Int)>126)) _ _ sA (D10.pk [0]) Y
  refine Rn.q rfl (V.eql rfl rfl) (gg 2 rfl ?_);refine bD Y 1 3 (λh17 Y=>?_) (λh17 Y=>?_)
  ·exact K2 (decide (((z10).toNat:Int)=61)) _ _ sA (D10.pk [0]) Y
  refine Rn.q rfl (V.eql rfl rfl) (gg 2 rfl ?_);refine bD Y 1 2 (λh18 Y=>?_) (λh18 Y=>?_)
  ·exact K2 (decide (((z10).toNat:Int)=59)) _ _ sA (D10.pk [0]) Y
  refine Rn.q rfl (V.eql rfl rfl) (gg 2 rfl ?_);exact K2 (decide (((z10).toNat:Int)=44)) _ _ sA (D10.pk [0]) Y
 exact K1 () _ _ (sb trivial) (D8.pk []) Y
theorem zPf {x0:zA0} {b1 o1:Nat} {x1:zA0} {r:Bool} (Y:zJk x0 x1=some r) (f0:(rdR b1 o1 [Str (x1.Key),Str (x1.Val)]).H Z0 w) :
 Calls prog 165 #[.agg [Str (x0.Key),Str (x0.Val)].toArray,pt b1 o1] w λx w'=>x=.returned (.bool (r))∧Hp Z0 No w w' []:=by
 obtain ⟨D0,D2,hc0⟩:=knA f0;refine eg func165 2 ?_;refine Rn.box rfl rfl rfl rfl rfl ?_;intro b3 w3 hb3 m3 e3;have D5:=(D2.addBox hb3 e3 m3).nf [_,zAi _ _ [_,_]] rfl;refine gg 5 rfl (Rn.q rfl (V.ldB V9 rfl (D5.get 1 rfl) rfl) (gg 1 rfl (Rn.q rfl (V.ldR0 V9 rfl (D5.get 0 rfl).2 rfl) (Rn.q rfl (V.eqlS rfl rfl) (gg 2 rfl ?_)))))
 cases Y
 exact Rn.R1 func165 ⟨rfl,D5.pk []⟩
theorem zHh {x0:(List zA0)} {x1_0:zA0} {b1_0 o1_0:Nat} {r:Int} (Y:zDd x0 x1_0=some r) (f0:(slR A0 c0 zA0.rep x0).H Z0 w) (f1:(rdR b1_0 o1_0 [Str (x1_0.Key),Str (x1_0.Val)]).H Z0 w) :
 Calls prog 208 #[.slice A0 (x0).length c0,.func (.func 165) #[] [pt b1_0 o1_0].toArray] w λx w'=>x=.returned (iv r)∧Hp Z0 No w w' []:=by
 obtain ⟨D0,D3,hc0⟩:=knA f0;obtain ⟨D4,hc0⟩:=D3.kn hc0 f1;refine eg func208 8 ?_;refine Rn.q rfl (V.lenV U34 rfl) (gg 2 rfl ?_);refine Rn.jG D0 Y (G:=Unit) (λg=>[]) (λg=>[]) (λj g=>j ()) ?_ ?_
 ·rintro _ w5 D5 Y
  try dsimp only at Y
  refine gg 4 rfl ?_
  cases Y
  exact Rn.R1 func208 ⟨rfl,D5.pk []⟩
 intro j1 Y K1;refine gg 1 rfl ?_;refine Rn.loopF (G:=Int) (λg=>[(0,.slice A0 (x0).length c0),(1,.func (.func 165) #[] [pt b1_0 o1_0].toArray),(7,iv (x0.length:Int)),(8,iv g)]) (λg w'=>Hp Z0 No w w' [slR A0 c0 zA0.rep x0,rdR b1_0 o1_0 [Str (x1_0.Key),Str (x1_0.Val)]]) (λn g=>zAx x0 x1_0 j1 n g) fuel 0 sA (D4.pk [0,1]) Y (λ_=>rfl) ?_;clear Y;rintro m7 y6 w7 D7 Y N7;replace Y:zAx x0 x1_0 j1 (m7+1) y6=some r:=Y;rw [zAx] at Y;refine gg 5 rfl ?_;refine bD Y 13 1 (λh8 Y=>?_) (λh8 Y=>?_)
 ·obtain ⟨z9,e9,Y⟩:=zA7 Y;refine Rn.ixH D7 0 rfl e9 rfl rfl rfl U34 O118 rfl rfl rfl rfl ?_;rintro b9 o9 vs9 hr9 D9;obtain rfl:=zA0.relE hr9;refine Rn.q rfl (V.ldA (vs:=[_,_]) V118 O118 rfl (Rd.pre (D9.get 2 rfl).2 2) rfl) ?_;obtain ⟨p11,e11,Y⟩:=zA7 Y;refine Rn.clV (cK func165) rfl rfl rfl rfl rfl (zPf (Z0:=All) e11 (zGo (D9.get 1 rfl)) :) ?_;rintro _ w11 ⟨rfl,Q11⟩;refine ⟨_,rfl,?_⟩;have D12:=D9.call0 Q11;refine gg 1 rfl ?_;refine bS Y 5 6 (λh13 Y=>?_) (λh13 Y=>?_)
  ·cases Y
   exact Rn.R1 func208 ⟨rfl,D12.pk []⟩
  exact N7 (W64 (y6+1)) _ _ sA (D12.pk [0,1]) Y
 exact K1 () _ _ (sb trivial) (D7.pk []) Y
theorem zH2 {x0:(List zA0)} {x1_0:zA0} {b1_0 o1_0:Nat} {r:Bool} (Y:zBe x0 x1_0=some r) (f0:(slR A0 c0 zA0.rep x0).H Z0 w) (f1:(rdR b1_0 o1_0 [Str (x1_0.Key),Str (x1_0.Val)]).H Z0 w) :
 Calls prog 164 #[.slice A0 (x0).length c0,.func (.func 165) #[] [pt b1_0 o1_0].toArray] w λx w'=>x=.returned (.bool (r))∧Hp Z0 No w w' []:=by
 obtain ⟨D0,D3,hc0⟩:=knA f0;obtain ⟨D4,hc0⟩:=D3.kn hc0 f1;refine eg func164 8 ?_;obtain ⟨p5,e5,Y⟩:=zA7 Y
 refine Rn.c0 (cK func208) (zHh (Z0:=All) e5 (zA5 (D4.get 0 rfl)) (zGo (D4.get 1 rfl)) :) D4 λw5 _ D6=>?_
 refine gg 3 rfl ?_
 cases Y
 exact Rn.R1 func164 ⟨rfl,D6.pk []⟩
theorem zN8 {x0:(List UInt8)} {x1:(List zA0)} {r:Int} (Y:zJl x0 x1=some r) (f0:(slR A1 c1 zA0.rep x1).H Z0 w) :
 Calls prog 106 #[Str (x0),.slice A1 (x1).length c1] w λx w'=>x=.returned (iv r)∧Hp Z0 No w w' []:=by
 obtain ⟨D0,D2,hc0⟩:=knA f0;refine eg func106 8 ?_;obtain ⟨p3,e3,Y⟩:=zA7 Y
 refine Rn.c0 (cK func103) (zHx (Z0:=All) e3  :) D2 λw3 _ D4=>?_
 refine Rn.q rfl (V.notB rfl) (gg 1 rfl ?_);refine bS Y 4 5 (λh5 Y=>?_) (λh5 Y=>?_)
 ·cases Y
  exact Rn.R1 func106 ⟨rfl,D4.pk []⟩
 refine Rn.q rfl (V.lenV U34 rfl) (gg 2 rfl ?_);refine bD Y 4 5 (λh6 Y=>?_) (λh6 Y=>?_)
 ·cases Y
  exact Rn.R1 func106 ⟨rfl,D4.pk []⟩
 refine Rn.q rfl (V.lenV U34 rfl) (gg 2 rfl ?_);refine Rn.jG D0 Y (G:=Unit) (λg=>[]) (λg=>[]) (λj g=>j ()) ?_ ?_
 ·rintro _ w7 D7 Y
  try dsimp only at Y
  refine gg 4 rfl ?_
  cases Y
  exact Rn.R1 func106 ⟨rfl,D7.pk []⟩
 intro j1 Y K1;refine gg 1 rfl ?_;refine Rn.loopF (G:=Int) (λg=>[(1,.slice A1 (x1).length c1),(13,.slice A1 (x1).length c1),(14,iv (x1.length:Int)),(15,iv g)]) (λg w'=>Hp Z0 No w w' [slR A1 c1 zA0.rep x1]) (λn g=>zFm x1 j1 n g) fuel 0 sA (D4.pk [0]) Y (λ_=>rfl) ?_;clear Y;rintro m9 y8 w9 D9 Y N9;replace Y:zFm x1 j1 (m9+1) y8=some r:=Y;rw [zFm] at Y;refine gg 5 rfl ?_;refine bD Y 6 1 (λh10 Y=>?_) (λh10 Y=>?_)
 ·obtain ⟨z11,e11,Y⟩:=zA7 Y;refine Rn.ixH D9 0 rfl e11 rfl rfl rfl U34 O118 rfl rfl rfl rfl ?_;rintro b11 o11 vs11 hr11 D11;obtain rfl:=zA0.relE hr11;refine Rn.q rfl (V.ldA (vs:=[_,_]) V118 O118 rfl (Rd.pre (D11.get 1 rfl).2 2) rfl) (Rn.al D11 Tryz.zeroValue118 λb13 w13 D15=>?_);replace D15:=D15.nf [_,_,zAi _ _ [_,_]] rfl;refine gg 1 rfl (Rn.sq rfl O118 rfl rfl (D15.get 2 rfl) ?_);intro w16 m16 x16;have D17:=(D15.st 2 rfl x16 m16).nf [_,_,zAi _ _ [_,_]] rfl;refine gg 5 rfl (Rn.q rfl (V.ldB V9 rfl (D17.get 2 rfl) rfl) ?_);obtain ⟨p18,e18,Y⟩:=zA7 Y
  refine Rn.c0 (cK func103) (zHx (Z0:=All) e18  :) D17 λw18 _ D19=>?_
  refine Rn.q rfl (V.notB rfl) (gg 1 rfl ?_);refine Rn.jR D0 Y (G:=Bool) [] (λg=>[(1,.slice A1 (x1).length c1),(5,iv y8),(6,pt b13 0),(13,.slice A1 (x1).length c1),(14,iv (x1.length:Int)),(15,iv y8),(29,.bool (g))]) (λg=>[slR A1 c1 zA0.rep x1,zAi b13 118 [Str (z11.Key),Str (z11.Val)]]) (λj g=>j g) ?_ ?_
  ·rintro y20 w21 D21 Y
   try dsimp only at Y
   refine gg 1 rfl ?_;refine bS Y 4 5 (λh22 Y=>?_) (λh22 Y=>?_)
   ·cases Y
    exact Rn.R1 func106 ⟨rfl,D21.pk []⟩
   obtain ⟨z23,e23,Y⟩:=zA7 Y;refine Rn.cutH D21 0 rfl e23 rfl rfl rfl U34 O118 rfl rfl rfl rfl rfl ?_;intro A23 c23 D23;refine Rn.q rfl (V.mkF rfl) ?_;obtain ⟨p25,e25,Y⟩:=zA7 Y
   refine Rn.c0 (cK func164) (zH2 (Z0:=All) e25 (zA5 (D23.get 2 rfl)) (zf9 (D23.get 1 rfl)) :) D23 λw25 _ D26=>?_
   refine gg 1 rfl ?_;refine bS Y 4 6 (λh27 Y=>?_) (λh27 Y=>?_)
   ·cases Y
    exact Rn.R1 func106 ⟨rfl,D26.pk []⟩
   exact N9 (W64 (y8+1)) _ _ sA (D26.pk [0]) Y
  intro j2 Y K2;refine zai Y (Rn.part (t:=24) rfl) (λh28 Y=>?_) (λh28 Y=>?_)
  ·refine gg 5 rfl ?_;exact K2 true _ _ sA (D19.pk [0,2]) Y
  refine gg 1 rfl (Rn.q rfl (V.ldB V9 rfl (D19.get 2 rfl) rfl) ?_);obtain ⟨p29,e29,Y⟩:=zA7 Y
  refine Rn.c0 (cK func163) (zLy (Z0:=All) e29  :) D19 λw29 _ D30=>?_
  refine Rn.q rfl (V.notB rfl) (gg 1 rfl ?_);exact K2 (!p29) _ _ sA (D30.pk [0,2]) Y
 exact K1 () _ _ (sb trivial) (D9.pk []) Y
theorem zQm {x0:zA8} {r:Bool} (Y:zL6 x0=some r) (h0:zA8.rep.rel Z0 w cs0 x0) :
 Calls prog 107 #[.agg cs0.toArray] w λx w'=>x=.returned (.bool (r))∧Hp Z0 No w w' []:=by
 have D0:=Hp.nil Z0 No w;have hc0:=Calm.nil;obtain ⟨Ar1,cr1,Ar3,cr3,Ar5,cr5,rfl,fs1,fs3,fs5⟩:=zA8.relE h0;obtain ⟨D7,hc0⟩:=D0.kn (r:=slR Ar1 cr1 zA0.rep x0.Attrs) hc0 fs1;obtain ⟨D8,hc0⟩:=D7.kn (r:=slR Ar3 cr3 zAq x0.Hist.Pos.Counts) hc0 fs3;obtain ⟨D9,hc0⟩:=D8.kn (r:=slR Ar5 cr5 zAq x0.Hist.Neg.Counts) hc0 fs5;refine eg func107 2 ?_;refine Rn.box rfl rfl rfl rfl rfl ?_;intro b10 w10 hb10 m10 e10;have D12:=(D9.addBox hb10 e10 m10).nf [_,_,_,zAi _ _ [_,_,_,_,_,_,_,_,_,_,_,_,_,_,_,_,_]] rfl;refine gg 6 rfl (Rn.q rfl (V.ldB V3 rfl (D12.get 3 rfl) rfl) (gg 7 rfl ?_));refine bD Y 3 6 (λh13 Y=>?_) (λh13 Y=>?_)
 ·refine Rn.q rfl (V.ldB V3 rfl (D12.get 3 rfl) rfl) (gg 3 rfl ?_)
  cases Y
  exact Rn.R1 func107 ⟨rfl,D12.pk []⟩
 refine Rn.jG D0 Y (G:=Bool) (λg=>[(1,pt b10 0),(10,.bool (g))]) (λg=>[slR Ar1 cr1 zA0.rep x0.Attrs,slR Ar3 cr3 zAq x0.Hist.Pos.Counts,slR Ar5 cr5 zAq x0.Hist.Neg.Counts,zAi b10 42 [Str (x0.Name),.slice Ar1 (x0.Attrs).length cr1,iv x0.Kind,iv x0.Temp,.bool (x0.Mono),iv x0.Start,iv x0.Time,iv x0.Int_,zAn x0.Re,zAn x0.Im,iv x0.Hist.Scale,zAn x0.Hist.Zero,iv x0.Hist.Pos.Offset,.slice Ar3 (x0.Hist.Pos.Counts).length cr3,iv x0.Hist.Neg.Offset,.slice Ar5 (x0.Hist.Neg.Counts).length cr5,iv x0.Flags]]) (λj g=>j g) ?_ ?_
 ·rintro y14 w15 D15 Y
  try dsimp only at Y
  refine bS Y 3 6 (λh16 Y=>?_) (λh16 Y=>?_)
  ·refine Rn.q rfl (V.ldB V3 rfl (D15.get 3 rfl) rfl) (gg 2 rfl ?_);refine Rn.cutR [8] [(22,.bool (decide ((x0.Temp=1)∨(x0.Temp=2))))] (λK17=>?_) ?_
   ·refine Rn.partD (t:=18) rfl (λh18=>?_) (λh18=>?_)
    ·refine gg 4 rfl ?_;exact K17 _ sA
    refine gg 1 rfl (Rn.q rfl (V.ldB V3 rfl (D15.get 3 rfl) rfl) (gg 2 rfl ?_));exact K17 _ sA
   refine gg 2 rfl ?_
   cases Y
   exact Rn.R1 func107 ⟨rfl,D15.pk []⟩
  cases Y
  exact Rn.R1 func107 ⟨rfl,D15.pk []⟩
 intro j1 Y K1;refine bD Y 1 5 (λh19 Y=>?_) (λh19 Y=>?_)
 ·exact K1 (decide (x0.Kind=1)) _ _ sA (D12.pk [0,1,2,3]) Y
 refine bD Y 1 5 (λh20 Y=>?_) (λh20 Y=>?_)
 ·exact K1 (decide (x0.Kind=2)) _ _ sA (D12.pk [0,1,2,3]) Y
 refine bD Y 1 4 (λh21 Y=>?_) (λh21 Y=>?_)
 ·exact K1 (decide (x0.Kind=4)) _ _ sA (D12.pk [0,1,2,3]) Y
 exact K1 (decide (x0.Kind=5)) _ _ sA (D12.pk [0,1,2,3]) Y
theorem zS3 {x0:zA8} {r:Bool} (Y:zPd x0=some r) (h0:zA8.rep.rel Z0 w cs0 x0) :
 Calls prog 108 #[.agg cs0.toArray] w λx w'=>x=.returned (.bool (r))∧Hp Z0 No w w' []:=by
 have D0:=Hp.nil Z0 No w;have hc0:=Calm.nil;obtain ⟨Ar1,cr1,Ar3,cr3,Ar5,cr5,rfl,fs1,fs3,fs5⟩:=zA8.relE h0;obtain ⟨D7,hc0⟩:=D0.kn (r:=slR Ar1 cr1 zA0.rep x0.Attrs) hc0 fs1;obtain ⟨D8,hc0⟩:=D7.kn (r:=slR Ar3 cr3 zAq x0.Hist.Pos.Counts) hc0 fs3;obtain ⟨D9,hc0⟩:=D8.kn (r:=slR Ar5 cr5 zAq x0.Hist.Neg.Counts) hc0 fs5;refine eg func108 2 ?_;refine Rn.box rfl rfl rfl rfl rfl ?_;intro b10 w10 hb10 m10 e10;have D12:=(D9.addBox hb10 e10 m10).nf [_,_,_,zAi _ _ [_,_,_,_,_,_,_,_,_,_,_,_,_,_,_,_,_]] rfl;refine gg 5 rfl (Rn.q rfl (V.ldB V3 rfl (D12.get 3 rfl) rfl) (gg 2 rfl ?_));refine Rn.cutR [8] [(10,.bool (decide ((x0.Kind=1)∨(x0.Kind=2))))] (λK13=>?_) ?_
 ·refine Rn.partD (t:=6) rfl (λh14=>?_) (λh14=>?_)
  ·refine gg 4 rfl ?_;exact K13 _ sA
  refine gg 1 rfl (Rn.q rfl (V.ldB V3 rfl (D12.get 3 rfl) rfl) (gg 2 rfl ?_));exact K13 _ sA
 refine gg 2 rfl ?_
 cases Y
 exact Rn.R1 func108 ⟨rfl,D12.pk []⟩
theorem zQl {x0:zA8} {r:Bool} (Y:zL5 x0=some r) (h0:zA8.rep.rel Z0 w cs0 x0) :
 Calls prog 109 #[.agg cs0.toArray] w λx w'=>x=.returned (.bool (r))∧Hp Z0 No w w' []:=by
 have D0:=Hp.nil Z0 No w;have hc0:=Calm.nil;obtain ⟨Ar1,cr1,Ar3,cr3,Ar5,cr5,rfl,fs1,fs3,fs5⟩:=zA8.relE h0;obtain ⟨D7,hc0⟩:=D0.kn (r:=slR Ar1 cr1 zA0.rep x0.Attrs) hc0 fs1;obtain ⟨D8,hc0⟩:=D7.kn (r:=slR Ar3 cr3 zAq x0.Hist.Pos.Counts) hc0 fs3;obtain ⟨D9,hc0⟩:=D8.kn (r:=slR Ar5 cr5 zAq x0.Hist.Neg.Counts) hc0 fs5;refine eg func109 2 ?_;refine Rn.box rfl rfl rfl rfl rfl ?_;intro b10 w10 hb10 m10 e10;have D12:=(D9.addBox hb10 e10 m10).nf [_,_,_,zAi _ _ [_,_,_,_,_,_,_,_,_,_,_,_,_,_,_,_,_]] rfl;refine gg 6 rfl (Rn.q rfl (V.ldB V3 rfl (D12.get 3 rfl) rfl) (gg 2 rfl ?_));refine Rn.cutR [] [(1,pt b10 0),(10,.bool (decide ((x0.Start<0)∨(x0.Time>4503599627370496))))] (λK13=>?_) ?_
 ·refine Rn.partD (t:=6) rfl (λh14=>?_) (λh14=>?_)
  ·refine gg 4 rfl ?_;exact K13 _ sA
  refine gg 1 rfl (Rn.q rfl (V.ldB V3 rfl (D12.get 3 rfl) rfl) (gg 2 rfl ?_));exact K13 _ sA
 refine gg 1 rfl ?_;refine bD Y 4 5 (λh15 Y=>?_) (λh15 Y=>?_)
 ·cases Y
  exact Rn.R1 func109 ⟨rfl,D12.pk []⟩
 refine Rn.q rfl (V.ldB V3 rfl (D12.get 3 rfl) rfl) (gg 2 rfl ?_);refine bD Y 3 4 (λh16 Y=>?_) (λh16 Y=>?_)
 ·refine Rn.q rfl (V.ldB V3 rfl (D12.get 3 rfl) rfl) (gg 1 rfl (Rn.q rfl (V.ldB V3 rfl (D12.get 3 rfl) rfl) (gg 3 rfl ?_)))
  cases Y
  exact Rn.R1 func109 ⟨rfl,D12.pk []⟩
 refine Rn.q rfl (V.ldB V3 rfl (D12.get 3 rfl) rfl) (gg 1 rfl (Rn.q rfl (V.ldB V3 rfl (D12.get 3 rfl) rfl) (gg 3 rfl ?_)))
 cases Y
 exact Rn.R1 func109 ⟨rfl,D12.pk []⟩
theorem zR3 {x0:zA2} {r:Bool} (Y:zMg x0=some r) (h0:zA2.rep.rel Z0 w cs0 x0) :
 Calls prog 166 #[.agg cs0.toArray] w λx w'=>x=.returned (.bool (r))∧Hp Z0 No w w' []:=by
 have D0:=Hp.nil Z0 No w;have hc0:=Calm.nil;obtain ⟨Ar1,cr1,Ar3,cr3,rfl,fs1,fs3⟩:=zA2.relE h0;obtain ⟨D5,hc0⟩:=D0.kn (r:=slR Ar1 cr1 zAq x0.Pos.Counts) hc0 fs1;obtain ⟨D6,hc0⟩:=D5.kn (r:=slR Ar3 cr3 zAq x0.Neg.Counts) hc0 fs3;refine eg func166 2 ?_;refine Rn.box rfl rfl rfl rfl rfl ?_;intro b7 w7 hb7 m7 e7;have D9:=(D6.addBox hb7 e7 m7).nf [_,_,zAi _ _ [_,_,_,_,_,_]] rfl;refine gg 5 rfl (Rn.q rfl (V.ldB V3 rfl (D9.get 2 rfl) rfl) (gg 2 rfl ?_));refine Rn.cutR [8,9,10,11,12,13,14,15,16,17,18,19,20,21,22,23,24,25,26,27,28,29,30,31,32] [(1,pt b7 0),(10,.bool (decide ((x0.Scale=0)∧(((x0.Zero).toNat:Int)=0))))] (λK10=>?_) ?_
 ·refine Rn.partD (t:=6) rfl (λh11=>?_) (λh11=>?_)
  ·refine gg 1 rfl (Rn.q rfl (V.ldB V35 rfl (D9.get 2 rfl) rfl) (Rn.q rfl (V.eql rfl rfl) (gg 1 rfl ?_)));exact K10 _ sA
  refine gg 4 rfl ?_;exact K10 _ sA
 refine gg 1 rfl ?_;refine Rn.cutR [14,15,16,17,18,19,20,21,22,23,24,25,26,27,28,29,30,31,32] [(1,pt b7 0),(16,.bool (decide (((x0.Scale=0)∧(((x0.Zero).toNat:Int)=0))∧(x0.Pos.Offset=0))))] (λK12=>?_) ?_
 ·refine Rn.partD (t:=11) rfl (λh13=>?_) (λh13=>?_)
  ·refine gg 2 rfl (Rn.q rfl (V.ldB V3 rfl (D9.get 2 rfl) rfl) (gg 2 rfl ?_));exact K12 _ sA
  refine gg 5 rfl ?_;exact K12 _ sA
 refine gg 1 rfl ?_;refine Rn.cutR [20,21,22,23,24,25,26,27,28,29,30,31,32] [(1,pt b7 0),(22,.bool (decide ((((x0.Scale=0)∧(((x0.Zero).toNat:Int)=0))∧(x0.Pos.Offset=0))∧(x0.Neg.Offset=0))))] (λK14=>?_) ?_
 ·refine Rn.partD (t:=17) rfl (λh15=>?_) (λh15=>?_)
  ·refine gg 2 rfl (Rn.q rfl (V.ldB V3 rfl (D9.get 2 rfl) rfl) (gg 2 rfl ?_));exact K14 _ sA
  refine gg 5 rfl ?_;exact K14 _ sA
 refine gg 1 rfl ?_;refine Rn.jR D0 Y (G:=Bool) [32] (λg=>[(34,.bool (g))]) (λg=>[slR Ar1 cr1 zAq x0.Pos.Counts,slR Ar3 cr3 zAq x0.Neg.Counts,zAi b7 40 [iv x0.Scale,zAn x0.Zero,iv x0.Pos.Offset,.slice Ar1 (x0.Pos.Counts).length cr1,iv x0.Neg.Offset,.slice Ar3 (x0.Neg.Counts).length cr3]]) (λj g=>j g) ?_ ?_
 ·rintro y16 w17 D17 Y
  try dsimp only at Y
  refine gg 2 rfl ?_
  cases Y
  exact Rn.R1 func166 ⟨rfl,D17.pk []⟩
 intro j1 Y K1;refine zKs Y (Rn.partD (t:=23) rfl) (λh18 Y=>?_) (λh18 Y=>?_)
 ·refine gg 2 rfl (Rn.q rfl (V.ldB V36 rfl (D9.get 2 rfl) rfl) (Rn.q rfl (V.lenV U36 rfl) (gg 2 rfl (Rn.q rfl (V.ldB V36 rfl (D9.get 2 rfl) rfl) (Rn.q rfl (V.lenV U36 rfl) (gg 3 rfl ?_))))));exact K1 (decide (W64 ((x0.Pos.Counts.length:Int)+(x0.Neg.Counts.length:Int))=0)) _ _ sA (D9.pk [0,1,2]) Y
 refine gg 11 rfl ?_;exact K1 false _ _ sA (D9.pk [0,1,2]) Y
theorem zS4 {x0:zA8} {r:Bool} (Y:zNk x0=some r) (h0:zA8.rep.rel Z0 w cs0 x0) :
 Calls prog 110 #[.agg cs0.toArray] w λx w'=>x=.returned (.bool (r))∧Hp Z0 No w w' []:=by
 have D0:=Hp.nil Z0 No w;have hc0:=Calm.nil;obtain ⟨Ar1,cr1,Ar3,cr3,Ar5,cr5,rfl,fs1,fs3,fs5⟩:=zA8.relE h0;obtain ⟨D7,hc0⟩:=D0.kn (r:=slR Ar1 cr1 zA0.rep x0.Attrs) hc0 fs1;obtain ⟨D8,hc0⟩:=D7.kn (r:=slR Ar3 cr3 zAq x0.Hist.Pos.Counts) hc0 fs3;obtain ⟨D9,hc0⟩:=D8.kn (r:=slR Ar5 cr5 zAq x0.Hist.Neg.Counts) hc0 fs5;refine eg func110 2 ?_;refine Rn.box rfl rfl rfl rfl rfl ?_;intro b10 w10 hb10 m10 e10;have D12:=(D9.addBox hb10 e10 m10).nf [_,_,_,zAi _ _ [_,_,_,_,_,_,_,_,_,_,_,_,_,_,_,_,_]] rfl;refine gg 5 rfl (Rn.q rfl (V.ldB V3 rfl (D12.get 3 rfl) rfl) (gg 2 rfl ?_));refine Rn.cutR [8,9,10,11,12,13] [(1,pt b10 0),(11,.bool (decide ((x0.Kind=2)∨(x0.Kind=3))))] (λK13=>?_) ?_
 ·refine Rn.partD (t:=7) rfl (λh14=>?_) (λh14=>?_)
  ·refine gg 4 rfl ?_;exact K13 _ sA
  refine gg 1 rfl (Rn.q rfl (V.ldB V3 rfl (D12.get 3 rfl) rfl) (gg 2 rfl ?_));exact K13 _ sA
 refine gg 1 rfl ?_;refine Rn.cutR [13] [(1,pt b10 0),(16,.bool (decide (((x0.Kind=2)∨(x0.Kind=3))∨(x0.Kind=5))))] (λK15=>?_) ?_
 ·refine Rn.partD (t:=12) rfl (λh16=>?_) (λh16=>?_)
  ·refine gg 4 rfl ?_;exact K15 _ sA
  refine gg 1 rfl (Rn.q rfl (V.ldB V3 rfl (D12.get 3 rfl) rfl) (gg 2 rfl ?_));exact K15 _ sA
 refine gg 8 rfl (Rn.q rfl (V.ldB V3 rfl (D12.get 3 rfl) rfl) (gg 2 rfl ?_));refine Rn.cutR [8] [(1,pt b10 0),(3,.bool (decide (((x0.Kind=2)∨(x0.Kind=3))∨(x0.Kind=5)))),(25,.bool (decide ((x0.Kind≠1)∧(x0.Int_≠0))))] (λK17=>?_) ?_
 ·refine Rn.partD (t:=21) rfl (λh18=>?_) (λh18=>?_)
  ·refine gg 1 rfl (Rn.q rfl (V.ldB V3 rfl (D12.get 3 rfl) rfl) (gg 2 rfl ?_));exact K17 _ sA
  refine gg 4 rfl ?_;exact K17 _ sA
 refine gg 2 rfl ?_;refine Rn.jG D0 Y (G:=Bool) (λg=>[(17,.bool (g))]) (λg=>[slR Ar1 cr1 zA0.rep x0.Attrs,slR Ar3 cr3 zAq x0.Hist.Pos.Counts,slR Ar5 cr5 zAq x0.Hist.Neg.Counts,zAi b10 42 [Str (x0.Name),.slice Ar1 (x0.Attrs).length cr1,iv x0.Kind,iv x0.Temp,.bool (x0.Mono),iv x0.Start,iv x0.Time,iv x0.Int_,zAn x0.Re,zAn x0.Im,iv x0.Hist.Scale,zAn x0.Hist.Zero,iv x0.Hist.Pos.Offset,.slice Ar3 (x0.Hist.Pos.Counts).length cr3,iv x0.Hist.Neg.Offset,.slice Ar5 (x0.Hist.Neg.Counts).length cr5,iv x0.Flags]]) (λj g=>j g) ?_ ?_
 ·rintro y19 w20 D20 Y
  try dsimp only at Y
  refine bS Y 4 6 (λh21 Y=>?_) (λh21 Y=>?_)
  ·cases Y
   exact Rn.R1 func110 ⟨rfl,D20.pk []⟩
  cases Y
  exact Rn.R1 func110 ⟨rfl,D20.pk []⟩
 intro j1 Y K1;refine bD Y 1 3 (λh22 Y=>?_) (λh22 Y=>?_)
 ·exact K1 (decide ((x0.Kind≠1)∧(x0.Int_≠0))) _ _ sA (D12.pk [0,1,2,3]) Y
 refine Rn.q rfl (V.notD rfl) (gg 1 rfl ?_);refine Rn.cutR [7] [(1,pt b10 0),(32,.bool (decide ((¬(((x0.Kind=2)∨(x0.Kind=3))∨(x0.Kind=5)))∧(((x0.Re).toNat:Int)≠0))))] (λK23=>?_) ?_
 ·refine Rn.partD (t:=28) rfl (λh24=>?_) (λh24=>?_)
  ·refine gg 1 rfl (Rn.q rfl (V.ldB V35 rfl (D12.get 3 rfl) rfl) (Rn.q rfl (V.neq rfl rfl) (gg 1 rfl ?_)));exact K23 _ sA
  refine gg 4 rfl ?_;exact K23 _ sA
 refine gg 2 rfl ?_;refine bD Y 1 3 (λh25 Y=>?_) (λh25 Y=>?_)
 ·exact K1 (decide ((¬(((x0.Kind=2)∨(x0.Kind=3))∨(x0.Kind=5)))∧(((x0.Re).toNat:Int)≠0))) _ _ sA (D12.pk [0,1,2,3]) Y
 refine Rn.q rfl (V.ldB V3 rfl (D12.get 3 rfl) rfl) (gg 2 rfl ?_);refine Rn.cutR [8] [(1,pt b10 0),(40,.bool (decide ((x0.Kind≠5)∧(((x0.Im).toNat:Int)≠0))))] (λK26=>?_) ?_
 ·refine Rn.partD (t:=36) rfl (λh27=>?_) (λh27=>?_)
  ·refine gg 1 rfl (Rn.q rfl (V.ldB V35 rfl (D12.get 3 rfl) rfl) (Rn.q rfl (V.neq rfl rfl) (gg 1 rfl ?_)));exact K26 _ sA
  refine gg 4 rfl ?_;exact K26 _ sA
 refine gg 2 rfl ?_;refine bD Y 1 3 (λh28 Y=>?_) (λh28 Y=>?_)
 ·exact K1 (decide ((x0.Kind≠5)∧(((x0.Im).toNat:Int)≠0))) _ _ sA (D12.pk [0,1,2,3]) Y
 refine Rn.q rfl (V.ldB V3 rfl (D12.get 3 rfl) rfl) (gg 2 rfl ?_);refine Rn.jR D0 Y (G:=Bool) [9] (λg=>[(1,pt b10 0),(49,.bool (g))]) (λg=>[slR Ar1 cr1 zA0.rep x0.Attrs,slR Ar3 cr3 zAq x0.Hist.Pos.Counts,slR Ar5 cr5 zAq x0.Hist.Neg.Counts,zAi b10 42 [Str (x0.Name),.slice Ar1 (x0.Attrs).length cr1,iv x0.Kind,iv x0.Temp,.bool (x0.Mono),iv x0.Start,iv x0.Time,iv x0.Int_,zAn x0.Re,zAn x0.Im,iv x0.Hist.Scale,zAn x0.Hist.Zero,iv x0.Hist.Pos.Offset,.slice Ar3 (x0.Hist.Pos.Counts).length cr3,iv x0.Hist.Neg.Offset,.slice Ar5 (x0.Hist.Neg.Counts).length cr5,iv x0.Flags]]) (λj g=>j g) ?_ ?_
 ·rintro y29 w30 D30 Y
  try dsimp only at Y
  refine gg 2 rfl ?_;refine bS Y 1 2 (λh31 Y=>?_) (λh31 Y=>?_)
  ·exact K1 y29 _ _ sA (D30.pk [0,1,2,3]) Y
  refine Rn.q rfl (V.ldB V3 rfl (D30.get 3 rfl) rfl) (gg 2 rfl ?_);refine Rn.cutR [8] [(57,.bool (decide ((x0.Flags<0)∨(x0.Flags>31))))] (λK32=>?_) ?_
  ·refine Rn.partD (t:=53) rfl (λh33=>?_) (λh33=>?_)
   ·refine gg 4 rfl ?_;exact K32 _ sA
   refine gg 1 rfl (Rn.q rfl (V.ldB V3 rfl (D30.get 3 rfl) rfl) (gg 2 rfl ?_));exact K32 _ sA
  refine gg 2 rfl ?_;exact K1 (decide ((x0.Flags<0)∨(x0.Flags>31))) _ _ sA (D30.pk [0,1,2,3]) Y
 intro j2 Y K2;refine zKs Y (Rn.partD (t:=44) rfl) (λh34 Y=>?_) (λh34 Y=>?_)
 ·refine gg 1 rfl (Rn.q rfl (V.ldBA [_,_,_,_,_,_] V40 O40 rfl (D12.get 3 rfl) rfl rfl) ?_);obtain ⟨p35,e35,Y⟩:=zA7 Y
  refine Rn.c0 (cK func166) (zR3 (Z0:=All) e35 (show zA2.rep.rel All _ _ _ from ⟨_,_,rfl,⟨rfl,trivial⟩,⟨_,_,rfl,⟨rfl,trivial⟩,⟨_,_,rfl,⟨_,_,rfl,⟨rfl,trivial⟩,⟨_,_,rfl,(zA5 (D12.get 1 rfl)).1,(zA5 (D12.get 1 rfl)).2.1,(zA5 (D12.get 1 rfl)).2.2⟩⟩,⟨_,_,rfl,⟨rfl,trivial⟩,⟨_,_,rfl,(zA5 (D12.get 2 rfl)).1,(zA5 (D12.get 2 rfl)).2.1,(zA5 (D12.get 2 rfl)).2.2⟩⟩⟩⟩⟩) :) D12 λw35 _ D36=>?_
  refine Rn.q rfl (V.notB rfl) (gg 1 rfl ?_);exact K2 (!p35) _ _ sA (D36.pk [0,1,2,3]) Y
 refine gg 5 rfl ?_;exact K2 false _ _ sA (D12.pk [0,1,2,3]) Y
theorem zR4 {x0:UInt64} {r:Bool} (Y:zMi x0=some r)  :
 Calls prog 111 #[zAn x0] w λx w'=>x=.returned (.bool (r))∧Hp Z0 No w w' []:=by
 have D0:=Hp.nil Z0 No w;have hc0:=Calm.nil;refine eg func111 7 ?_;refine Rn.q rfl (V.o64 rfl rfl x0 (9218868437227405312:UInt64) rfl rfl (zSl _ _ _)) (Rn.q rfl (V.neq rfl rfl) (gg 2 rfl ?_))
 cases Y
 exact Rn.R1 func111 ⟨rfl,D0.pk []⟩
theorem zQv {x0:UInt64} {r:UInt64} (Y:zRi x0=some r)  :
 Calls prog 167 #[zAn x0] w λx w'=>x=.returned (.float .f64 (r).toNat)∧Hp Z0 No w w' []:=by
 have D0:=Hp.nil Z0 No w;have hc0:=Calm.nil;refine eg func167 7 ?_;refine Rn.q rfl (V.fltOf (a:=x0) func209 (by kernel_rfl) (by kernel_rfl) (by kernel_rfl) (by kernel_rfl) rfl) (gg 2 rfl ?_)
 cases Y
 exact Rn.R1 func167 ⟨rfl,D0.pk []⟩
theorem zSw {x0:UInt64} {x1:UInt64} {r:Bool} (Y:zOx x0 x1=some r)  :
 Calls prog 112 #[zAn x0,zAn x1] w λx w'=>x=.returned (.bool (r))∧Hp Z0 No w w' []:=by
 have D0:=Hp.nil Z0 No w;have hc0:=Calm.nil;refine eg func112 7 ?_;obtain ⟨p1,e1,Y⟩:=zA7 Y
 refine Rn.c0 (cK func167) (zQv (Z0:=All) e1  :) D0 λw1 _ D2=>?_
 refine gg 1 rfl ?_;obtain ⟨p3,e3,Y⟩:=zA7 Y
 refine Rn.c0 (cK func167) (zQv (Z0:=All) e3  :) D2 λw3 _ D4=>?_
 refine Rn.q rfl (V.lssF (a:=p1) (b:=p3) rfl rfl) (gg 2 rfl ?_)
 cases Y
 exact Rn.R1 func112 ⟨rfl,D4.pk []⟩
theorem zO0 {x0:zA2} {r:zI9} (Y:zKq x0=some r) (h0:zA2.rep.rel Z0 w cs0 x0) :
 Calls prog 168 #[.agg cs0.toArray] w λx w'=>∃ A_0_0 c_0_0 A_0_1 c_0_1,x=.returned (.agg [iv r.a0.Offset,.slice A_0_0 (r.a0.Counts).length c_0_0,iv r.a1.Offset,.slice A_0_1 (r.a1.Counts).length c_0_1].toArray)∧Hp Z0 No w w' [slR A_0_0 c_0_0 zAq r.a0.Counts,slR A_0_1 c_0_1 zAq r.a1.Counts]:=by
 have D0:=Hp.nil Z0 No w;have hc0:=Calm.nil;obtain ⟨Ar1,cr1,Ar3,cr3,rfl,fs1,fs3⟩:=zA2.relE h0;obtain ⟨D5,hc0⟩:=D0.kn (r:=slR Ar1 cr1 zAq x0.Pos.Counts) hc0 fs1;obtain ⟨D6,hc0⟩:=D5.kn (r:=slR Ar3 cr3 zAq x0.Neg.Counts) hc0 fs3;refine eg func168 2 ?_;refine Rn.box rfl rfl rfl rfl rfl ?_;intro b7 w7 hb7 m7 e7;have D9:=(D6.addBox hb7 e7 m7).nf [_,_,zAi _ _ [_,_,_,_,_,_]] rfl
 refine Rn.al D9 Tryz.zeroValue222 λb10 w10 D12=>?_
 replace D12:=D12.nf [_,_,_,zAi _ _ [_,_,_,_]] rfl;refine gg 4 rfl (Rn.q rfl (V.ldBA [_,_] V38 O38 rfl (D12.get 2 rfl) rfl rfl) (gg 1 rfl (Rn.q rfl (V.ldBA [_,_] V38 O38 rfl (D12.get 2 rfl) rfl rfl) (Rn.q rfl (V.bldA (cs:=[_,_,_,_]) _ zfg (zQj 2 2) rfl rfl) (Rn.sq rfl O222 rfl rfl (D12.get 3 rfl) ?_)))));intro w13 m13 x13;have D14:=(D12.st 3 rfl x13 m13).nf [_,_,_,zAi _ _ [_,_,_,_]] rfl;refine gg 1 rfl ?_;refine Rn.retG1 func168 rfl (rvC rfl V222 O222 (D14.get 3 rfl) rfl) ?_;obtain rfl:=zF3 Y;exact ⟨Ar1,cr1,Ar3,cr3,rfl,D14.pk [0,1]⟩
theorem zR7 {x0:zAa} {r:Int} (Y:zMk x0=some r) (h0:zAa.rep.rel Z0 w cs0 x0) :
 Calls prog 169 #[.agg cs0.toArray] w λx w'=>x=.returned (iv r)∧Hp Z0 No w w' []:=by
 have D0:=Hp.nil Z0 No w;have hc0:=Calm.nil;obtain ⟨Ar1,cr1,rfl,fs1⟩:=zAa.relE h0;obtain ⟨D3,hc0⟩:=D0.kn (r:=slR Ar1 cr1 zAq x0.Counts) hc0 fs1;refine eg func169 2 ?_;refine Rn.box rfl rfl rfl rfl rfl ?_;intro b4 w4 hb4 m4 e4;have D6:=(D3.addBox hb4 e4 m4).nf [_,zAi _ _ [_,_]] rfl;refine gg 5 rfl (Rn.q rfl (V.ldB V36 rfl (D6.get 1 rfl) rfl) (Rn.q rfl (V.lenV U36 rfl) (gg 10 rfl ?_)));refine bD Y 4 5 (λh7 Y=>?_) (λh7 Y=>?_)
 ·cases Y
  exact Rn.R1 func169 ⟨rfl,D6.pk []⟩
 refine Rn.cutR [7] [(1,pt b4 0),(3,iv (x0.Counts.length:Int)),(17,.bool (decide (((x0.Counts.length:Int)=0)∧(x0.Offset≠0))))] (λK8=>?_) ?_
 ·refine Rn.partD (t:=13) rfl (λh9=>?_) (λh9=>?_)
  ·refine gg 1 rfl (Rn.q rfl (V.ldB V3 rfl (D6.get 1 rfl) rfl) (gg 2 rfl ?_));exact K8 _ sA
  refine gg 4 rfl ?_;exact K8 _ sA
 refine gg 2 rfl ?_;refine bD Y 4 6 (λh10 Y=>?_) (λh10 Y=>?_)
 ·cases Y
  exact Rn.R1 func169 ⟨rfl,D6.pk []⟩
 refine bD Y 4 3 (λh11 Y=>?_) (λh11 Y=>?_)
 ·cases Y
  exact Rn.R1 func169 ⟨rfl,D6.pk []⟩
 refine Rn.q rfl (V.ldB V36 rfl (D6.get 1 rfl) rfl) ?_;obtain ⟨z12,e12,Y⟩:=zA7 Y;refine Rn.ixH D6 0 rfl e12 rfl rfl rfl U36 O35 rfl rfl rfl rfl ?_;rintro b12 o12 vs12 ⟨rfl,_⟩ D12;refine Rn.q rfl (V.ldR0 V35 rfl (D12.get 2 rfl).2 rfl) (Rn.q rfl (V.eql rfl rfl) (gg 1 rfl ?_));refine Rn.jR D0 Y (G:=Bool) [14] (λg=>[(1,pt b4 0),(3,iv (x0.Counts.length:Int)),(35,.bool (g))]) (λg=>[slR Ar1 cr1 zAq x0.Counts,zAi b4 38 [iv x0.Offset,.slice Ar1 (x0.Counts).length cr1]]) (λj g=>j g) ?_ ?_
 ·rintro y14 w15 D15 Y
  try dsimp only at Y
  refine gg 2 rfl ?_;refine bS Y 4 3 (λh16 Y=>?_) (λh16 Y=>?_)
  ·cases Y
   exact Rn.R1 func169 ⟨rfl,D15.pk []⟩
  refine Rn.q rfl (V.ldB V3 rfl (D15.get 1 rfl) rfl) (gg 2 rfl ?_);refine Rn.jR D0 Y (G:=Bool) [11] (λg=>[(47,.bool (g))]) (λg=>[slR Ar1 cr1 zAq x0.Counts,zAi b4 38 [iv x0.Offset,.slice Ar1 (x0.Counts).length cr1]]) (λj g=>j g) ?_ ?_
  ·rintro y17 w18 D18 Y
   try dsimp only at Y
   refine gg 2 rfl ?_;refine bS Y 4 6 (λh19 Y=>?_) (λh19 Y=>?_)
   ·cases Y
    exact Rn.R1 func169 ⟨rfl,D18.pk []⟩
   cases Y
   exact Rn.R1 func169 ⟨rfl,D18.pk []⟩
  intro j2 Y K2;refine zKs Y (Rn.partD (t:=40) rfl) (λh20 Y=>?_) (λh20 Y=>?_)
  ·refine gg 7 rfl ?_;exact K2 true _ _ sA (D15.pk [0,1]) Y
  refine gg 1 rfl (Rn.q rfl (V.ldB V3 rfl (D15.get 1 rfl) rfl) (gg 5 rfl ?_));exact K2 (decide (x0.Offset>W64 (1073741824-(W64 ((x0.Counts.length:Int)-1))))) _ _ sA (D15.pk [0,1]) Y
 intro j1 Y K1;refine zKs Y (Rn.partD (t:=27) rfl) (λh21 Y=>?_) (λh21 Y=>?_)
 ·refine gg 8 rfl ?_;exact K1 true _ _ sA (D12.pk [0,1]) Y
 refine gg 1 rfl (Rn.q rfl (V.ldB V36 rfl (D12.get 1 rfl) rfl) (gg 2 rfl ?_));obtain ⟨z22,e22,Y⟩:=zA7 Y;refine Rn.ixH D12 0 rfl e22 rfl rfl rfl U36 O35 rfl rfl rfl rfl ?_;rintro b22 o22 vs22 ⟨rfl,_⟩ D22;refine Rn.q rfl (V.ldR0 V35 rfl (D22.get 3 rfl).2 rfl) (Rn.q rfl (V.eql rfl rfl) (gg 1 rfl ?_));exact K1 (decide (((z22).toNat:Int)=0)) _ _ sA (D22.pk [0,1]) Y
theorem zR8 {x0:zA2} {r:(UInt64×Bool)} (Y:zMl x0=some r) (h0:zA2.rep.rel Z0 w cs0 x0) :
 Calls prog 170 #[.agg cs0.toArray] w λx w'=>x=.returned (.tuple #[zAn r.1,.bool (r.2)])∧Hp Z0 No w w' []:=by
 have D0:=Hp.nil Z0 No w;have hc0:=Calm.nil;obtain ⟨Ar1,cr1,Ar3,cr3,rfl,fs1,fs3⟩:=zA2.relE h0;obtain ⟨D5,hc0⟩:=D0.kn (r:=slR Ar1 cr1 zAq x0.Pos.Counts) hc0 fs1;obtain ⟨D6,hc0⟩:=D5.kn (r:=slR Ar3 cr3 zAq x0.Neg.Counts) hc0 fs3;refine eg func170 2 ?_;refine Rn.box rfl rfl rfl rfl rfl ?_;intro b7 w7 hb7 m7 e7;have D9:=(D6.addBox hb7 e7 m7).nf [_,_,zAi _ _ [_,_,_,_,_,_]] rfl;refine gg 6 rfl (Rn.q rfl (V.ldB V35 rfl (D9.get 2 rfl) rfl) (gg 6 rfl (Rn.q rfl (V.ldBA [_,_,_,_,_,_] V40 O40 rfl (D9.get 2 rfl) rfl rfl) ?_)));obtain ⟨p10,e10,Y⟩:=zA7 Y;refine Rn.cq (cK func168) (zO0 (Z0:=D9.Z) e10 (show zA2.rep.rel _ _ _ _ from ⟨_,_,rfl,⟨rfl,trivial⟩,⟨_,_,rfl,⟨rfl,trivial⟩,⟨_,_,rfl,⟨_,_,rfl,⟨rfl,trivial⟩,⟨_,_,rfl,(D9.get 0 rfl).1,(D9.get 0 rfl).2.1,(D9.get 0 rfl).2.2⟩⟩,⟨_,_,rfl,⟨rfl,trivial⟩,⟨_,_,rfl,(D9.get 1 rfl).1,(D9.get 1 rfl).2.1,(D9.get 1 rfl).2.2⟩⟩⟩⟩⟩) :) ?_;rintro _ w10 ⟨A10_0_0,c10_0_0,A10_0_1,c10_0_1,rfl,Q10⟩;refine ⟨_,rfl,?_⟩;have D13:=D9.callZ Q10;refine gg 2 rfl ?_;refine Rn.jG D0 Y (G:=UInt64×UInt64) (λg=>[(4,zAn (g.1)),(5,zAn (g.2))]) (λg=>[slR Ar1 cr1 zAq x0.Pos.Counts,slR Ar3 cr3 zAq x0.Neg.Counts,zAi b7 40 [iv x0.Scale,zAn x0.Zero,iv x0.Pos.Offset,.slice Ar1 (x0.Pos.Counts).length cr1,iv x0.Neg.Offset,.slice Ar3 (x0.Neg.Counts).length cr3]]) (λj g=>j g.1 g.2) ?_ ?_
 ·rintro ⟨y14,y15⟩ w16 D16 Y
  try dsimp only at Y
  refine gg 4 rfl (Rn.q rfl (V.neq rfl rfl) (gg 1 rfl ?_));refine bD Y 5 7 (λh17 Y=>?_) (λh17 Y=>?_)
  ·cases Y
   exact Rn.R2 func170 ⟨rfl,D16.pk []⟩
  cases Y
  exact Rn.R2 func170 ⟨rfl,D16.pk []⟩
 intro j1 Y K1;refine gg 1 rfl ?_;refine Rn.loopF (G:=UInt64×UInt64×Int) (λg=>[(4,zAn (g.1)),(5,zAn (g.2.1)),(14,.agg [iv p10.a0.Offset,.slice A10_0_0 (p10.a0.Counts).length c10_0_0,iv p10.a1.Offset,.slice A10_0_1 (p10.a1.Counts).length c10_0_1].toArray),(15,iv (g.2.2))]) (λg w'=>Hp Z0 No w w' [slR Ar1 cr1 zAq x0.Pos.Counts,slR Ar3 cr3 zAq x0.Neg.Counts,zAi b7 40 [iv x0.Scale,zAn x0.Zero,iv x0.Pos.Offset,.slice Ar1 (x0.Pos.Counts).length cr1,iv x0.Neg.Offset,.slice Ar3 (x0.Neg.Counts).length cr3],slR A10_0_0 c10_0_0 zAq p10.a0.Counts,slR A10_0_1 c10_0_1 zAq p10.a1.Counts]) (λn g=>zDq p10 j1 n g.1 g.2.1 g.2.2) fuel (x0.Zero,(0:UInt64),0) sA (D13.pk [0,1,2,3,4]) Y (λ_=>rfl) ?_;clear Y;rintro m21 ⟨y18,y19,y20⟩ w21 D21 Y N21;replace Y:zDq p10 j1 (m21+1) y18 y19 y20=some r:=Y;rw [zDq] at Y;refine gg 5 rfl ?_;refine bD Y 5 1 (λh22 Y=>?_) (λh22 Y=>?_)
 ·obtain ⟨z23,e23,Y⟩:=zA7 Y;obtain ⟨A24,c24,D24,Q24⟩:=Hp.idx2 (λx:zAa=>x.Counts) e23 D21 3 4 rfl rfl;refine Rn.q rfl (V.arE (v:=.agg [iv z23.Offset,.slice A24 (z23.Counts).length c24].toArray) zfg V38 rfl rfl (zQx e23 rfl) (by rcases Q24 with ⟨g1,g2,g3,g4⟩|⟨g1,g2,g3,g4⟩<;>first|(simp only [g1,g2,g3,g4];rfl)|(exfalso;omega))) (Rn.als rfl rfl rfl Tryz.zeroValue38 rfl O38 rfl rfl rfl rfl (by first|exact zJx rfl|(simp [Value.oneCell'];done)) ?_);intro b26 w26 hb26 m26 e26;have D28:=(D24.addBox hb26 e26 m26).nf [_,_,_,_,_,_,zAi _ _ [_,_]] rfl;refine gg 4 rfl (Rn.q rfl (V.ldB V36 rfl (D28.get 6 rfl) rfl) (Rn.q rfl (V.lenV U36 rfl) (gg 2 rfl ?_)));refine Rn.jG D0 Y (G:=UInt64×UInt64) (λg=>[(4,zAn (g.1)),(5,zAn (g.2)),(14,.agg [iv p10.a0.Offset,.slice A10_0_0 (p10.a0.Counts).length c10_0_0,iv p10.a1.Offset,.slice A10_0_1 (p10.a1.Counts).length c10_0_1].toArray),(15,iv y20)]) (λg=>[slR Ar1 cr1 zAq x0.Pos.Counts,slR Ar3 cr3 zAq x0.Neg.Counts,zAi b7 40 [iv x0.Scale,zAn x0.Zero,iv x0.Pos.Offset,.slice Ar1 (x0.Pos.Counts).length cr1,iv x0.Neg.Offset,.slice Ar3 (x0.Neg.Counts).length cr3],slR A10_0_0 c10_0_0 zAq p10.a0.Counts,slR A10_0_1 c10_0_1 zAq p10.a1.Counts,slR A24 c24 zAq z23.Counts,zAi b26 38 [iv z23.Offset,.slice A24 (z23.Counts).length c24]]) (λj g=>j g.1 g.2) ?_ ?_
  ·rintro ⟨y29,y30⟩ w31 D31 Y
   try dsimp only at Y
   refine gg 5 rfl ?_;exact N21 (y29,y30,(W64 (y20+1))) _ _ sA (D31.pk [0,1,2,3,4]) Y
  intro j2 Y K2;refine gg 1 rfl ?_;refine Rn.loopF (G:=UInt64×UInt64×Int) (λg=>[(4,zAn (g.1)),(5,zAn (g.2.1)),(14,.agg [iv p10.a0.Offset,.slice A10_0_0 (p10.a0.Counts).length c10_0_0,iv p10.a1.Offset,.slice A10_0_1 (p10.a1.Counts).length c10_0_1].toArray),(15,iv y20),(19,.slice A24 (z23.Counts).length c24),(20,iv (z23.Counts.length:Int)),(21,iv (g.2.2))]) (λg w'=>Hp Z0 No w w' [slR Ar1 cr1 zAq x0.Pos.Counts,slR Ar3 cr3 zAq x0.Neg.Counts,zAi b7 40 [iv x0.Scale,zAn x0.Zero,iv x0.Pos.Offset,.slice Ar1 (x0.Pos.Counts).length cr1,iv x0.Neg.Offset,.slice Ar3 (x0.Neg.Counts).length cr3],slR A10_0_0 c10_0_0 zAq p10.a0.Counts,slR A10_0_1 c10_0_1 zAq p10.a1.Counts,slR A24 c24 zAq z23.Counts,zAi b26 38 [iv z23.Offset,.slice A24 (z23.Counts).length c24]]) (λn g=>zFb z23 j2 n g.1 g.2.1 g.2.2) fuel (y18,y19,0) sA (D28.pk [0,1,2,3,4,5,6]) Y (λ_=>rfl) ?_;clear Y;rintro m35 ⟨y32,y33,y34⟩ w35 D35 Y N35;replace Y:zFb z23 j2 (m35+1) y32 y33 y34=some r:=Y;rw [zFb] at Y;refine gg 5 rfl ?_;refine bD Y 5 1 (λh36 Y=>?_) (λh36 Y=>?_)
  ·obtain ⟨z37,e37,Y⟩:=zA7 Y;refine Rn.ixH D35 5 rfl e37 rfl rfl rfl U36 O35 rfl rfl rfl rfl ?_;rintro b37 o37 vs37 ⟨rfl,_⟩ D37;refine Rn.q rfl (V.ldR0 V35 rfl (D37.get 7 rfl).2 rfl) (gg 10 rfl (Rn.q rfl (V.add64 (a:=y32) (b:=z37) func210 (by kernel_rfl) (by kernel_rfl) (by kernel_rfl) (by kernel_rfl) rfl) (gg 9 rfl (Rn.q rfl (V.o64 rfl rfl y33 (cry y32 z37) rfl rfl (zXf _ _ _)) (gg 7 rfl ?_)))));exact N35 ((y32+z37),(y33|||(cry y32 z37)),(W64 (y34+1))) _ _ sA (D37.pk [0,1,2,3,4,5,6]) Y
  exact K2 (y32,y33) _ _ sA (D35.pk [0,1,2,3,4,5,6]) Y
 exact K1 (y18,y19) _ _ sA (D21.pk [0,1,2]) Y
theorem zJ2 {x0:zA2} {r:Int} (Y:zHd x0=some r) (h0:zA2.rep.rel Z0 w cs0 x0) :
 Calls prog 113 #[.agg cs0.toArray] w λx w'=>x=.returned (iv r)∧Hp Z0 No w w' []:=by
 have D0:=Hp.nil Z0 No w;have hc0:=Calm.nil;obtain ⟨Ar1,cr1,Ar3,cr3,rfl,fs1,fs3⟩:=zA2.relE h0;obtain ⟨D5,hc0⟩:=D0.kn (r:=slR Ar1 cr1 zAq x0.Pos.Counts) hc0 fs1;obtain ⟨D6,hc0⟩:=D5.kn (r:=slR Ar3 cr3 zAq x0.Neg.Counts) hc0 fs3;refine eg func113 2 ?_;refine Rn.box rfl rfl rfl rfl rfl ?_;intro b7 w7 hb7 m7 e7;have D9:=(D6.addBox hb7 e7 m7).nf [_,_,zAi _ _ [_,_,_,_,_,_]] rfl;refine gg 6 rfl (Rn.q rfl (V.ldB V3 rfl (D9.get 2 rfl) rfl) (gg 2 rfl ?_));refine Rn.cutR [] [(1,pt b7 0),(15,.bool (decide ((x0.Scale<(-10))∨(x0.Scale>20))))] (λK10=>?_) ?_
 ·refine Rn.partD (t:=11) rfl (λh11=>?_) (λh11=>?_)
  ·refine gg 4 rfl ?_;exact K10 _ sA
  refine gg 1 rfl (Rn.q rfl (V.ldB V3 rfl (D9.get 2 rfl) rfl) (gg 2 rfl ?_));exact K10 _ sA
 refine gg 1 rfl ?_;refine bD Y 4 4 (λh12 Y=>?_) (λh12 Y=>?_)
 ·cases Y
  exact Rn.R1 func113 ⟨rfl,D9.pk []⟩
 refine Rn.q rfl (V.ldBA [_,_,_,_,_,_] V40 O40 rfl (D9.get 2 rfl) rfl rfl) ?_;obtain ⟨p13,e13,Y⟩:=zA7 Y;refine Rn.cq (cK func168) (zO0 (Z0:=D9.Z) e13 (show zA2.rep.rel _ _ _ _ from ⟨_,_,rfl,⟨rfl,trivial⟩,⟨_,_,rfl,⟨rfl,trivial⟩,⟨_,_,rfl,⟨_,_,rfl,⟨rfl,trivial⟩,⟨_,_,rfl,(D9.get 0 rfl).1,(D9.get 0 rfl).2.1,(D9.get 0 rfl).2.2⟩⟩,⟨_,_,rfl,⟨rfl,trivial⟩,⟨_,_,rfl,(D9.get 1 rfl).1,(D9.get 1 rfl).2.1,(D9.get 1 rfl).2.2⟩⟩⟩⟩⟩) :) ?_;rintro _ w13 ⟨A13_0_0,c13_0_0,A13_0_1,c13_0_1,rfl,Q13⟩;refine ⟨_,rfl,?_⟩;have D16:=D9.callZ Q13;refine gg 2 rfl ?_;refine Rn.jG D0 Y (G:=Unit) (λg=>[(1,pt b7 0)]) (λg=>[slR Ar1 cr1 zAq x0.Pos.Counts,slR Ar3 cr3 zAq x0.Neg.Counts,zAi b7 40 [iv x0.Scale,zAn x0.Zero,iv x0.Pos.Offset,.slice Ar1 (x0.Pos.Counts).length cr1,iv x0.Neg.Offset,.slice Ar3 (x0.Neg.Counts).length cr3]]) (λj g=>j ()) ?_ ?_
 ·rintro _ w17 D17 Y
  try dsimp only at Y
  refine gg 3 rfl (Rn.q rfl (V.ldBA [_,_,_,_,_,_] V40 O40 rfl (D17.get 2 rfl) rfl rfl) ?_);obtain ⟨p18,e18,Y⟩:=zA7 Y
  refine Rn.c0 (cK func170) (zR8 (Z0:=All) e18 (show zA2.rep.rel All _ _ _ from ⟨_,_,rfl,⟨rfl,trivial⟩,⟨_,_,rfl,⟨rfl,trivial⟩,⟨_,_,rfl,⟨_,_,rfl,⟨rfl,trivial⟩,⟨_,_,rfl,(zA5 (D17.get 0 rfl)).1,(zA5 (D17.get 0 rfl)).2.1,(zA5 (D17.get 0 rfl)).2.2⟩⟩,⟨_,_,rfl,⟨rfl,trivial⟩,⟨_,_,rfl,(zA5 (D17.get 1 rfl)).1,(zA5 (D17.get 1 rfl)).2.1,(zA5 (D17.get 1 rfl)).2.2⟩⟩⟩⟩⟩) :) D17 λw18 _ D19=>?_
  refine gg 9 rfl (Rn.q rfl (V.notB rfl) (gg 1 rfl ?_));refine bS Y 4 5 (λh20 Y=>?_) (λh20 Y=>?_)
  ·cases Y
   exact Rn.R1 func113 ⟨rfl,D19.pk []⟩
  cases Y
  exact Rn.R1 func113 ⟨rfl,D19.pk []⟩
 intro j1 Y K1;refine gg 1 rfl ?_;refine Rn.loopF (G:=Int) (λg=>[(1,pt b7 0),(17,.agg [iv p13.a0.Offset,.slice A13_0_0 (p13.a0.Counts).length c13_0_0,iv p13.a1.Offset,.slice A13_0_1 (p13.a1.Counts).length c13_0_1].toArray),(18,iv g)]) (λg w'=>Hp Z0 No w w' [slR Ar1 cr1 zAq x0.Pos.Counts,slR Ar3 cr3 zAq x0.Neg.Counts,zAi b7 40 [iv x0.Scale,zAn x0.Zero,iv x0.Pos.Offset,.slice Ar1 (x0.Pos.Counts).length cr1,iv x0.Neg.Offset,.slice Ar3 (x0.Neg.Counts).length cr3],slR A13_0_0 c13_0_0 zAq p13.a0.Counts,slR A13_0_1 c13_0_1 zAq p13.a1.Counts]) (λn g=>zFc p13 j1 n g) fuel 0 sA (D16.pk [0,1,2,3,4]) Y (λ_=>rfl) ?_;clear Y;rintro m22 y21 w22 D22 Y N22;replace Y:zFc p13 j1 (m22+1) y21=some r:=Y;rw [zFc] at Y;refine gg 5 rfl ?_;refine bD Y 5 1 (λh23 Y=>?_) (λh23 Y=>?_)
 ·obtain ⟨z24,e24,Y⟩:=zA7 Y;obtain ⟨A25,c25,D25,Q25⟩:=Hp.idx2 (λx:zAa=>x.Counts) e24 D22 3 4 rfl rfl;refine Rn.q rfl (V.arE (v:=.agg [iv z24.Offset,.slice A25 (z24.Counts).length c25].toArray) zfg V38 rfl rfl (zQx e24 rfl) (by rcases Q25 with ⟨g1,g2,g3,g4⟩|⟨g1,g2,g3,g4⟩<;>first|(simp only [g1,g2,g3,g4];rfl)|(exfalso;omega))) (Rn.als rfl rfl rfl Tryz.zeroValue38 rfl O38 rfl rfl rfl rfl (by first|exact zJx rfl|(simp [Value.oneCell'];done)) ?_);intro b27 w27 hb27 m27 e27;have D29:=(D25.addBox hb27 e27 m27).nf [_,_,_,_,_,_,zAi _ _ [_,_]] rfl;refine gg 3 rfl (Rn.q rfl (V.ldBA [_,_] V38 O38 rfl (D29.get 6 rfl) rfl rfl) ?_);obtain ⟨p30,e30,Y⟩:=zA7 Y
  refine Rn.c0 (cK func169) (zR7 (Z0:=All) e30 (show zAa.rep.rel All _ _ _ from ⟨_,_,rfl,⟨rfl,trivial⟩,⟨_,_,rfl,(zA5 (D29.get 5 rfl)).1,(zA5 (D29.get 5 rfl)).2.1,(zA5 (D29.get 5 rfl)).2.2⟩⟩) :) D29 λw30 _ D31=>?_
  refine gg 7 rfl ?_;refine bD Y 5 6 (λh32 Y=>?_) (λh32 Y=>?_)
  ·cases Y
   exact Rn.R1 func113 ⟨rfl,D31.pk []⟩
  exact N22 (W64 (y21+1)) _ _ sA (D31.pk [0,1,2,3,4]) Y
 exact K1 () _ _ sA (D22.pk [0,1,2]) Y
theorem zK0 {x0:zA8} {r:Int} (Y:zF1 x0=some r) (h0:zA8.rep.rel Z0 w cs0 x0) :
 Calls prog 57 #[.agg cs0.toArray] w λx w'=>x=.returned (iv r)∧Hp Z0 No w w' []:=by
 have D0:=Hp.nil Z0 No w;have hc0:=Calm.nil;obtain ⟨Ar1,cr1,Ar3,cr3,Ar5,cr5,rfl,fs1,fs3,fs5⟩:=zA8.relE h0;obtain ⟨D7,hc0⟩:=D0.kn (r:=slR Ar1 cr1 zA0.rep x0.Attrs) hc0 fs1;obtain ⟨D8,hc0⟩:=D7.kn (r:=slR Ar3 cr3 zAq x0.Hist.Pos.Counts) hc0 fs3;obtain ⟨D9,hc0⟩:=D8.kn (r:=slR Ar5 cr5 zAq x0.Hist.Neg.Counts) hc0 fs5;refine eg func57 2 ?_;refine Rn.box rfl rfl rfl rfl rfl ?_;intro b10 w10 hb10 m10 e10;have D12:=(D9.addBox hb10 e10 m10).nf [_,_,_,zAi _ _ [_,_,_,_,_,_,_,_,_,_,_,_,_,_,_,_,_]] rfl;refine gg 6 rfl (Rn.q rfl (V.ldB V9 rfl (D12.get 3 rfl) rfl) (gg 1 rfl (Rn.q rfl (V.ldB V34 rfl (D12.get 3 rfl) rfl) ?_)));obtain ⟨p13,e13,Y⟩:=zA7 Y
 refine Rn.c0 (cK func106) (zN8 (Z0:=All) e13 (zA5 (D12.get 0 rfl)) :) D12 λw13 _ D14=>?_
 refine gg 7 rfl ?_;refine bD Y 5 5 (λh15 Y=>?_) (λh15 Y=>?_)
 ·cases Y
  exact Rn.R1 func57 ⟨rfl,D14.pk []⟩
 refine Rn.q rfl (V.ldBA [_,_,_,_,_,_,_,_,_,_,_,_,_,_,_,_,_] V42 O42 rfl (D14.get 3 rfl) rfl rfl) ?_;obtain ⟨p16,e16,Y⟩:=zA7 Y
 refine Rn.c0 (cK func107) (zQm (Z0:=All) e16 (show zA8.rep.rel All _ _ _ from ⟨_,_,rfl,⟨rfl,trivial⟩,⟨_,_,rfl,⟨_,_,rfl,(zA5 (D14.get 0 rfl)).1,(zA5 (D14.get 0 rfl)).2.1,(zA5 (D14.get 0 rfl)).2.2⟩,⟨_,_,rfl,⟨rfl,trivial⟩,⟨_,_,rfl,⟨rfl,trivial⟩,⟨_,_,rfl,⟨rfl,trivial⟩,⟨_,_,rfl,⟨rfl,trivial⟩,⟨_,_,rfl,⟨rfl,trivial⟩,⟨_,_,rfl,⟨rfl,trivial⟩,⟨_,_,rfl,⟨rfl,trivial⟩,⟨_,_,rfl,⟨rfl,trivial⟩,⟨_,_,rfl,⟨_,_,rfl,⟨rfl,trivial⟩,⟨_,_,rfl,⟨rfl,trivial⟩,⟨_,_,rfl,⟨_,_,rfl,⟨rfl,trivial⟩,⟨_,_,rfl,(zA5 (D14.get 1 rfl)).1,(zA5 (D14.get 1 rfl)).2.1,(zA5 (D14.get 1 rfl)).2.2⟩⟩,⟨_,_,rfl,⟨rfl,trivial⟩,⟨_,_,rfl,(zA5 (D14.get 2 rfl)).1,(zA5 (D14.get 2 rfl)).2.1,(zA5 (D14.get 2 rfl)).2.2⟩⟩⟩⟩⟩,⟨rfl,trivial⟩⟩⟩⟩⟩⟩⟩⟩⟩⟩⟩⟩) :) D14 λw16 _ D17=>?_
 refine Rn.q rfl (V.notB rfl) (gg 2 rfl ?_);refine bS Y 4 4 (λh18 Y=>?_) (λh18 Y=>?_)
 ·cases Y
  exact Rn.R1 func57 ⟨rfl,D17.pk []⟩
 refine Rn.q rfl (V.ldB V4 rfl (D17.get 3 rfl) rfl) (gg 1 rfl ?_);refine Rn.jR D0 Y (G:=Bool) [7] (λg=>[(1,pt b10 0),(23,.bool (g))]) (λg=>[slR Ar1 cr1 zA0.rep x0.Attrs,slR Ar3 cr3 zAq x0.Hist.Pos.Counts,slR Ar5 cr5 zAq x0.Hist.Neg.Counts,zAi b10 42 [Str (x0.Name),.slice Ar1 (x0.Attrs).length cr1,iv x0.Kind,iv x0.Temp,.bool (x0.Mono),iv x0.Start,iv x0.Time,iv x0.Int_,zAn x0.Re,zAn x0.Im,iv x0.Hist.Scale,zAn x0.Hist.Zero,iv x0.Hist.Pos.Offset,.slice Ar3 (x0.Hist.Pos.Counts).length cr3,iv x0.Hist.Neg.Offset,.slice Ar5 (x0.Hist.Neg.Counts).length cr5,iv x0.Flags]]) (λj g=>j g) ?_ ?_
 ·rintro y19 w20 D20 Y
  try dsimp only at Y
  refine gg 2 rfl ?_;refine Rn.jG D0 Y (G:=Bool) (λg=>[(1,pt b10 0),(16,.bool (g))]) (λg=>[slR Ar1 cr1 zA0.rep x0.Attrs,slR Ar3 cr3 zAq x0.Hist.Pos.Counts,slR Ar5 cr5 zAq x0.Hist.Neg.Counts,zAi b10 42 [Str (x0.Name),.slice Ar1 (x0.Attrs).length cr1,iv x0.Kind,iv x0.Temp,.bool (x0.Mono),iv x0.Start,iv x0.Time,iv x0.Int_,zAn x0.Re,zAn x0.Im,iv x0.Hist.Scale,zAn x0.Hist.Zero,iv x0.Hist.Pos.Offset,.slice Ar3 (x0.Hist.Pos.Counts).length cr3,iv x0.Hist.Neg.Offset,.slice Ar5 (x0.Hist.Neg.Counts).length cr5,iv x0.Flags]]) (λj g=>j g) ?_ ?_
  ·rintro y21 w22 D22 Y
   try dsimp only at Y
   refine bS Y 4 2 (λh23 Y=>?_) (λh23 Y=>?_)
   ·cases Y
    exact Rn.R1 func57 ⟨rfl,D22.pk []⟩
   refine Rn.q rfl (V.ldBA [_,_,_,_,_,_,_,_,_,_,_,_,_,_,_,_,_] V42 O42 rfl (D22.get 3 rfl) rfl rfl) ?_;obtain ⟨p24,e24,Y⟩:=zA7 Y
   refine Rn.c0 (cK func110) (zS4 (Z0:=All) e24 (show zA8.rep.rel All _ _ _ from ⟨_,_,rfl,⟨rfl,trivial⟩,⟨_,_,rfl,⟨_,_,rfl,(zA5 (D22.get 0 rfl)).1,(zA5 (D22.get 0 rfl)).2.1,(zA5 (D22.get 0 rfl)).2.2⟩,⟨_,_,rfl,⟨rfl,trivial⟩,⟨_,_,rfl,⟨rfl,trivial⟩,⟨_,_,rfl,⟨rfl,trivial⟩,⟨_,_,rfl,⟨rfl,trivial⟩,⟨_,_,rfl,⟨rfl,trivial⟩,⟨_,_,rfl,⟨rfl,trivial⟩,⟨_,_,rfl,⟨rfl,trivial⟩,⟨_,_,rfl,⟨rfl,trivial⟩,⟨_,_,rfl,⟨_,_,rfl,⟨rfl,trivial⟩,⟨_,_,rfl,⟨rfl,trivial⟩,⟨_,_,rfl,⟨_,_,rfl,⟨rfl,trivial⟩,⟨_,_,rfl,(zA5 (D22.get 1 rfl)).1,(zA5 (D22.get 1 rfl)).2.1,(zA5 (D22.get 1 rfl)).2.2⟩⟩,⟨_,_,rfl,⟨rfl,trivial⟩,⟨_,_,rfl,(zA5 (D22.get 2 rfl)).1,(zA5 (D22.get 2 rfl)).2.1,(zA5 (D22.get 2 rfl)).2.2⟩⟩⟩⟩⟩,⟨rfl,trivial⟩⟩⟩⟩⟩⟩⟩⟩⟩⟩⟩⟩) :) D22 λw24 _ D25=>?_
   refine Rn.q rfl (V.notB rfl) (gg 2 rfl ?_);refine bS Y 4 3 (λh26 Y=>?_) (λh26 Y=>?_)
   ·cases Y
    exact Rn.R1 func57 ⟨rfl,D25.pk []⟩
   refine Rn.q rfl (V.ldB V4 rfl (D25.get 3 rfl) rfl) (gg 1 rfl ?_);refine Rn.cutR [7,8,9,10,11,12,13] [(1,pt b10 0),(38,.bool (decide ((x0.Mono=true)∧(x0.Kind=2))))] (λK27=>?_) ?_
   ·refine Rn.part (t:=34) rfl (λh28=>?_) (λh28=>?_)
    ·refine gg 1 rfl (Rn.q rfl (V.ldB V3 rfl (D25.get 3 rfl) rfl) (gg 2 rfl ?_));exact K27 _ sA
    refine gg 4 rfl ?_;exact K27 _ sA
   refine gg 1 rfl ?_;refine Rn.jR D0 Y (G:=Bool) [13] (λg=>[(1,pt b10 0),(44,.bool (g))]) (λg=>[slR Ar1 cr1 zA0.rep x0.Attrs,slR Ar3 cr3 zAq x0.Hist.Pos.Counts,slR Ar5 cr5 zAq x0.Hist.Neg.Counts,zAi b10 42 [Str (x0.Name),.slice Ar1 (x0.Attrs).length cr1,iv x0.Kind,iv x0.Temp,.bool (x0.Mono),iv x0.Start,iv x0.Time,iv x0.Int_,zAn x0.Re,zAn x0.Im,iv x0.Hist.Scale,zAn x0.Hist.Zero,iv x0.Hist.Pos.Offset,.slice Ar3 (x0.Hist.Pos.Counts).length cr3,iv x0.Hist.Neg.Offset,.slice Ar5 (x0.Hist.Neg.Counts).length cr5,iv x0.Flags]]) (λj g=>j g) ?_ ?_
   ·rintro y29 w30 D30 Y
    try dsimp only at Y
    refine gg 2 rfl ?_;refine bS Y 4 3 (λh31 Y=>?_) (λh31 Y=>?_)
    ·cases Y
     exact Rn.R1 func57 ⟨rfl,D30.pk []⟩
    refine Rn.q rfl (V.ldB V4 rfl (D30.get 3 rfl) rfl) (gg 1 rfl ?_);refine Rn.jR D0 Y (G:=Bool) [12] (λg=>[(1,pt b10 0),(57,.bool (g))]) (λg=>[slR Ar1 cr1 zA0.rep x0.Attrs,slR Ar3 cr3 zAq x0.Hist.Pos.Counts,slR Ar5 cr5 zAq x0.Hist.Neg.Counts,zAi b10 42 [Str (x0.Name),.slice Ar1 (x0.Attrs).length cr1,iv x0.Kind,iv x0.Temp,.bool (x0.Mono),iv x0.Start,iv x0.Time,iv x0.Int_,zAn x0.Re,zAn x0.Im,iv x0.Hist.Scale,zAn x0.Hist.Zero,iv x0.Hist.Pos.Offset,.slice Ar3 (x0.Hist.Pos.Counts).length cr3,iv x0.Hist.Neg.Offset,.slice Ar5 (x0.Hist.Neg.Counts).length cr5,iv x0.Flags]]) (λj g=>j g) ?_ ?_
    ·rintro y32 w33 D33 Y
     try dsimp only at Y
     refine gg 2 rfl ?_;refine bS Y 4 3 (λh34 Y=>?_) (λh34 Y=>?_)
     ·cases Y
      exact Rn.R1 func57 ⟨rfl,D33.pk []⟩
     refine Rn.q rfl (V.ldB V3 rfl (D33.get 3 rfl) rfl) (gg 3 rfl ?_);refine bD Y 3 6 (λh35 Y=>?_) (λh35 Y=>?_)
     ·refine Rn.q rfl (V.ldBA [_,_,_,_,_,_] V40 O40 rfl (D33.get 3 rfl) rfl rfl) ?_;obtain ⟨p36,e36,Y⟩:=zA7 Y
      refine Rn.c0 (cK func113) (zJ2 (Z0:=All) e36 (show zA2.rep.rel All _ _ _ from ⟨_,_,rfl,⟨rfl,trivial⟩,⟨_,_,rfl,⟨rfl,trivial⟩,⟨_,_,rfl,⟨_,_,rfl,⟨rfl,trivial⟩,⟨_,_,rfl,(zA5 (D33.get 1 rfl)).1,(zA5 (D33.get 1 rfl)).2.1,(zA5 (D33.get 1 rfl)).2.2⟩⟩,⟨_,_,rfl,⟨rfl,trivial⟩,⟨_,_,rfl,(zA5 (D33.get 2 rfl)).1,(zA5 (D33.get 2 rfl)).2.1,(zA5 (D33.get 2 rfl)).2.2⟩⟩⟩⟩⟩) :) D33 λw36 _ D37=>?_
      refine gg 2 rfl ?_
      cases Y
      exact Rn.R1 func57 ⟨rfl,D37.pk []⟩
     cases Y
     exact Rn.R1 func57 ⟨rfl,D33.pk []⟩
    intro j4 Y K4;refine zai Y (Rn.part (t:=48) rfl) (λh38 Y=>?_) (λh38 Y=>?_)
    ·refine gg 1 rfl (Rn.q rfl (V.ldB V3 rfl (D30.get 3 rfl) rfl) (gg 2 rfl ?_));refine Rn.jR D0 Y (G:=Bool) [11,12] (λg=>[(1,pt b10 0),(48,.bool true),(56,.bool (g))]) (λg=>[slR Ar1 cr1 zA0.rep x0.Attrs,slR Ar3 cr3 zAq x0.Hist.Pos.Counts,slR Ar5 cr5 zAq x0.Hist.Neg.Counts,zAi b10 42 [Str (x0.Name),.slice Ar1 (x0.Attrs).length cr1,iv x0.Kind,iv x0.Temp,.bool (x0.Mono),iv x0.Start,iv x0.Time,iv x0.Int_,zAn x0.Re,zAn x0.Im,iv x0.Hist.Scale,zAn x0.Hist.Zero,iv x0.Hist.Pos.Offset,.slice Ar3 (x0.Hist.Pos.Counts).length cr3,iv x0.Hist.Neg.Offset,.slice Ar5 (x0.Hist.Neg.Counts).length cr5,iv x0.Flags]]) (λj g=>j g) ?_ ?_
     ·rintro y39 w40 D40 Y
      try dsimp only at Y
      refine gg 1 rfl ?_;exact K4 y39 _ _ sA (D40.pk [0,1,2,3]) Y
     intro j5 Y K5;refine zKs Y (Rn.partD (t:=52) rfl) (λh41 Y=>?_) (λh41 Y=>?_)
     ·refine gg 4 rfl ?_;exact K5 true _ _ sA (D30.pk [0,1,2,3]) Y
     refine gg 1 rfl (Rn.q rfl (V.ldB V35 rfl (D30.get 3 rfl) rfl) ?_);obtain ⟨p42,e42,Y⟩:=zA7 Y
     refine Rn.c0 (cK func112) (zSw (Z0:=All) e42  :) D30 λw42 _ D43=>?_
     refine gg 1 rfl ?_;exact K5 p42 _ _ sA (D43.pk [0,1,2,3]) Y
    refine gg 9 rfl ?_;exact K4 false _ _ sA (D30.pk [0,1,2,3]) Y
   intro j3 Y K3;refine zKs Y (Rn.partD (t:=39) rfl) (λh44 Y=>?_) (λh44 Y=>?_)
   ·refine gg 1 rfl (Rn.q rfl (V.ldB V35 rfl (D25.get 3 rfl) rfl) ?_);obtain ⟨p45,e45,Y⟩:=zA7 Y
    refine Rn.c0 (cK func111) (zR4 (Z0:=All) e45  :) D25 λw45 _ D46=>?_
    refine Rn.q rfl (V.notB rfl) (gg 1 rfl ?_);exact K3 (!p45) _ _ sA (D46.pk [0,1,2,3]) Y
   refine gg 5 rfl ?_;exact K3 false _ _ sA (D25.pk [0,1,2,3]) Y
  intro j2 Y K2;refine bS Y 1 1 (λh47 Y=>?_) (λh47 Y=>?_)
  ·exact K2 y19 _ _ sA (D20.pk [0,1,2,3]) Y
  refine Rn.q rfl (V.ldBA [_,_,_,_,_,_,_,_,_,_,_,_,_,_,_,_,_] V42 O42 rfl (D20.get 3 rfl) rfl rfl) ?_;obtain ⟨p48,e48,Y⟩:=zA7 Y
  refine Rn.c0 (cK func109) (zQl (Z0:=All) e48 (show zA8.rep.rel All _ _ _ from ⟨_,_,rfl,⟨rfl,trivial⟩,⟨_,_,rfl,⟨_,_,rfl,(zA5 (D20.get 0 rfl)).1,(zA5 (D20.get 0 rfl)).2.1,(zA5 (D20.get 0 rfl)).2.2⟩,⟨_,_,rfl,⟨rfl,trivial⟩,⟨_,_,rfl,⟨rfl,trivial⟩,⟨_,_,rfl,⟨rfl,trivial⟩,⟨_,_,rfl,⟨rfl,trivial⟩,⟨_,_,rfl,⟨rfl,trivial⟩,⟨_,_,rfl,⟨rfl,trivial⟩,⟨_,_,rfl,⟨rfl,trivial⟩,⟨_,_,rfl,⟨rfl,trivial⟩,⟨_,_,rfl,⟨_,_,rfl,⟨rfl,trivial⟩,⟨_,_,rfl,⟨rfl,trivial⟩,⟨_,_,rfl,⟨_,_,rfl,⟨rfl,trivial⟩,⟨_,_,rfl,(zA5 (D20.get 1 rfl)).1,(zA5 (D20.get 1 rfl)).2.1,(zA5 (D20.get 1 rfl)).2.2⟩⟩,⟨_,_,rfl,⟨rfl,trivial⟩,⟨_,_,rfl,(zA5 (D20.get 2 rfl)).1,(zA5 (D20.get 2 rfl)).2.1,(zA5 (D20.get 2 rfl)).2.2⟩⟩⟩⟩⟩,⟨rfl,trivial⟩⟩⟩⟩⟩⟩⟩⟩⟩⟩⟩⟩) :) D20 λw48 _ D49=>?_
  refine Rn.q rfl (V.notB rfl) (gg 2 rfl ?_);exact K2 (!p48) _ _ sA (D49.pk [0,1,2,3]) Y
 intro j1 Y K1;refine zai Y (Rn.part (t:=19) rfl) (λh50 Y=>?_) (λh50 Y=>?_)
 ·refine Rn.q rfl (V.ldBA [_,_,_,_,_,_,_,_,_,_,_,_,_,_,_,_,_] V42 O42 rfl (D17.get 3 rfl) rfl rfl) ?_;obtain ⟨p51,e51,Y⟩:=zA7 Y
  refine Rn.c0 (cK func108) (zS3 (Z0:=All) e51 (show zA8.rep.rel All _ _ _ from ⟨_,_,rfl,⟨rfl,trivial⟩,⟨_,_,rfl,⟨_,_,rfl,(zA5 (D17.get 0 rfl)).1,(zA5 (D17.get 0 rfl)).2.1,(zA5 (D17.get 0 rfl)).2.2⟩,⟨_,_,rfl,⟨rfl,trivial⟩,⟨_,_,rfl,⟨rfl,trivial⟩,⟨_,_,rfl,⟨rfl,trivial⟩,⟨_,_,rfl,⟨rfl,trivial⟩,⟨_,_,rfl,⟨rfl,trivial⟩,⟨_,_,rfl,⟨rfl,trivial⟩,⟨_,_,rfl,⟨rfl,trivial⟩,⟨_,_,rfl,⟨rfl,trivial⟩,⟨_,_,rfl,⟨_,_,rfl,⟨rfl,trivial⟩,⟨_,_,rfl,⟨rfl,trivial⟩,⟨_,_,rfl,⟨_,_,rfl,⟨rfl,trivial⟩,⟨_,_,rfl,(zA5 (D17.get 1 rfl)).1,(zA5 (D17.get 1 rfl)).2.1,(zA5 (D17.get 1 rfl)).2.2⟩⟩,⟨_,_,rfl,⟨rfl,trivial⟩,⟨_,_,rfl,(zA5 (D17.get 2 rfl)).1,(zA5 (D17.get 2 rfl)).2.1,(zA5 (D17.get 2 rfl)).2.2⟩⟩⟩⟩⟩,⟨rfl,trivial⟩⟩⟩⟩⟩⟩⟩⟩⟩⟩⟩⟩) :) D17 λw51 _ D52=>?_
  refine Rn.q rfl (V.notB rfl) (gg 1 rfl ?_);exact K1 (!p51) _ _ sA (D52.pk [0,1,2,3]) Y
 refine gg 4 rfl ?_;exact K1 false _ _ sA (D17.pk [0,1,2,3]) Y
theorem zG1 {x0:(List zA0)} {r:(List zA0)} (Y:zCl x0=some r) (f0:(slR A0 c0 zA0.rep x0).H Z0 w) :
 Calls prog 89 #[.slice A0 (x0).length c0] w λx w'=>∃ A_0_0 c_0_0,x=.returned (.slice A_0_0 (r).length c_0_0)∧Hp Z0 No w w' [zAy 118 A_0_0 c_0_0 zA0.rep r]:=by
 exact zc5 w A0 c0 x0 f0 Y
theorem zJv {x0:(List UInt8)} {r:Bool} (Y:zHy x0=some r)  :
 Calls prog 232 #[Str (x0)] w λx w'=>x=.returned (.bool (r))∧Hp Z0 No w w' []:=by
 have D0:=Hp.nil Z0 No w;have hc0:=Calm.nil;refine eg func232 8 ?_;refine Rn.q rfl (V.neqS rfl rfl) (gg 2 rfl ?_)
 cases Y
 exact Rn.R1 func232 ⟨rfl,D0.pk []⟩
theorem zNa {x0:(List UInt8)} {x1:(List UInt8)} {r:Int} (Y:zIq x0 x1=some r)  :
 Calls prog 214 #[Str (x0),Str (x1)] w λx w'=>x=.returned (iv r)∧Hp Z0 No w w' []:=by
 have D0:=Hp.nil Z0 No w;have hc0:=Calm.nil;refine eg func214 7 ?_;obtain ⟨p1,e1,Y⟩:=zA7 Y
 refine Rn.c0 (cK func232) (zJv (Z0:=All) e1  :) D0 λw1 _ D2=>?_
 refine gg 5 rfl ?_;obtain ⟨p3,e3,Y⟩:=zA7 Y
 refine Rn.c0 (cK func232) (zJv (Z0:=All) e3  :) D2 λw3 _ D4=>?_
 refine gg 7 rfl ?_;refine bS Y 5 6 (λh5 Y=>?_) (λh5 Y=>?_)
 ·refine bS Y 4 5 (λh6 Y=>?_) (λh6 Y=>?_)
  ·cases Y
   exact Rn.R1 func214 ⟨rfl,D4.pk []⟩
  cases Y
  exact Rn.R1 func214 ⟨rfl,D4.pk []⟩
 refine bS Y 4 6 (λh7 Y=>?_) (λh7 Y=>?_)
 ·cases Y
  exact Rn.R1 func214 ⟨rfl,D4.pk []⟩
 refine Rn.q rfl (V.lssS rfl rfl) (gg 1 rfl ?_);refine bS Y 4 6 (λh8 Y=>?_) (λh8 Y=>?_)
 ·cases Y
  exact Rn.R1 func214 ⟨rfl,D4.pk []⟩
 refine Rn.q rfl (V.gtrS rfl rfl) (gg 1 rfl ?_);refine bS Y 4 5 (λh9 Y=>?_) (λh9 Y=>?_)
 ·cases Y
  exact Rn.R1 func214 ⟨rfl,D4.pk []⟩
 cases Y
 exact Rn.R1 func214 ⟨rfl,D4.pk []⟩
theorem zP7 {x0:zA0} {x1:zA0} {r:Int} (Y:zJ1 x0 x1=some r)  :
 Calls prog 213 #[.agg [Str (x0.Key),Str (x0.Val)].toArray,.agg [Str (x1.Key),Str (x1.Val)].toArray] w λx w'=>x=.returned (iv r)∧Hp Z0 No w w' []:=by
 have D0:=Hp.nil Z0 No w;have hc0:=Calm.nil;refine eg func213 2 ?_;refine Rn.box rfl rfl rfl rfl rfl ?_;intro b1 w1 hb1 m1 e1;have D3:=(D0.addBox hb1 e1 m1).nf [zAi _ _ [_,_]] rfl;refine Rn.box rfl rfl rfl rfl rfl ?_;intro b4 w4 hb4 m4 e4;have D6:=(D3.addBox hb4 e4 m4).nf [_,zAi _ _ [_,_]] rfl;refine gg 5 rfl (Rn.q rfl (V.ldB V9 rfl (D6.get 0 rfl) rfl) (gg 1 rfl (Rn.q rfl (V.ldB V9 rfl (D6.get 1 rfl) rfl) ?_)));obtain ⟨p7,e7,Y⟩:=zA7 Y
 refine Rn.c0 (cK func214) (zNa (Z0:=All) e7  :) D6 λw7 _ D8=>?_
 refine gg 2 rfl ?_
 cases Y
 exact Rn.R1 func213 ⟨rfl,D8.pk []⟩
theorem m_slices_insertionSortCmpFunc_api_Pair_s2_sim {x0:(List zA0)} {x1:Int} {x2:Int} {r:(List zA0)} (Y:zB5 x0 x1 x2=some r) (hL:zKt Z0 w [zAy 118 A0 c0 zA0.rep x0]) :
 Calls prog 233 #[.slice A0 (x0).length c0,iv x1,iv x2,.func (.func 213) #[] [].toArray] w λx w'=>x=.returned (.tuple #[])∧Hp Z0 (LS [zAy 118 A0 c0 zA0.rep x0]) w w' [zAy 118 A0 c0 zA0.rep r]∧(r).length=(x0).length:=by
 have D0:=hL.start;refine eg func233 6 ?_;obtain ⟨j1,hj1,Y⟩:=jnE Y;refine Rn.joinG (r:=r) (G:=(List zA0)) (λg=>[]) (λg w'=>Hp Z0 (LS [zAy 118 A0 c0 zA0.rep x0]) w w' [zAy 118 A0 c0 zA0.rep g]∧g.length=(x0).length) (λg=>j1 g) ?_ ?_
 ·subst hj1;clear Y;rintro y2 w3 ⟨D3,hl2⟩ Y;replace hl2:y2.length=(x0).length:=hl2
  try dsimp only at Y
  refine Rn.end0 func233 rfl ?_;obtain rfl:=zF3 Y;exact ⟨rfl,D3.pk [0],hl2⟩
 intro K1;clear hj1;refine gg 1 rfl ?_;refine Rn.loopF (G:=(List zA0)×Int) (λg=>[(0,.slice A0 (x0).length c0),(1,iv x1),(2,iv x2),(3,.func (.func 213) #[] [].toArray),(8,iv (g.2))]) (λg w'=>Hp Z0 (LS [zAy 118 A0 c0 zA0.rep x0]) w w' [zAy 118 A0 c0 zA0.rep (g.1)]∧(g.1).length=(x0).length) (λn g=>zAr x1 x2 j1 n g.1 g.2) fuel (x0,(W64 (x1+1))) sA (⟨D0.pk [0],rfl⟩) Y (λ_=>rfl) ?_;clear Y;rintro m6 ⟨y4,y5⟩ w6 ⟨D6,hl4⟩ Y N6;replace hl4:y4.length=(x0).length:=hl4;replace Y:zAr x1 x2 j1 (m6+1) y4 y5=some r:=Y;rw [zAr] at Y;refine gg 7 rfl ?_;refine bD Y 8 1 (λh7 Y=>?_) (λh7 Y=>?_)
 ·obtain ⟨j2,hj2,Y⟩:=jnE Y;refine Rn.joinG (r:=r) (G:=(List zA0)) (λg=>[(0,.slice A0 (x0).length c0),(1,iv x1),(2,iv x2),(3,.func (.func 213) #[] [].toArray),(8,iv y5)]) (λg w'=>Hp Z0 (LS [zAy 118 A0 c0 zA0.rep x0]) w w' [zAy 118 A0 c0 zA0.rep g]∧g.length=(x0).length) (λg=>j2 g) ?_ ?_
  ·subst hj2;clear Y;rintro y8 w9 ⟨D9,hl8⟩ Y;replace hl8:y8.length=(x0).length:=hl8
   try dsimp only at Y
   refine gg 6 rfl ?_;exact N6 (y8,(W64 (y5+1))) _ _ sA (⟨D9.pk [0],hl8⟩) Y
  intro K2;clear hj2;refine gg 1 rfl ?_;refine Rn.loopF (G:=(List zA0)×Int) (λg=>[(0,.slice A0 (x0).length c0),(1,iv x1),(2,iv x2),(3,.func (.func 213) #[] [].toArray),(8,iv y5),(9,iv (g.2))]) (λg w'=>Hp Z0 (LS [zAy 118 A0 c0 zA0.rep x0]) w w' [zAy 118 A0 c0 zA0.rep (g.1)]∧(g.1).length=(x0).length) (λn g=>zAu x1 j2 n g.1 g.2) fuel (y4,y5) sA (⟨D6.pk [0],hl4⟩) Y (λ_=>rfl) ?_;clear Y;rintro m12 ⟨y10,y11⟩ w12 ⟨D12,hl10⟩ Y N12;replace hl10:y10.length=(x0).length:=hl10;replace Y:zAu x1 j2 (m12+1) y10 y11=some r:=Y;rw [zAu] at Y;refine gg 2 rfl ?_;refine Rn.jG D0 Y (G:=Bool) (λg=>[(0,.slice A0 (x0).length c0),(1,iv x1),(2,iv x2),(3,.func (.func 213) #[] [].toArray),(8,iv y5),(9,iv y11),(34,.bool (g))]) (λg=>[zAy 118 A0 c0 zA0.rep y10]) (λj g=>j g) ?_ ?_
  ·rintro y13 w14 D14 Y
   try dsimp only at Y
   refine bS Y 3 1 (λh15 Y=>?_) (λh15 Y=>?_)
   ·refine Rn.drawX rfl D14 ?_;intro w16 D16;refine dq [0,1,2,3,4,5,6,7] ?_;obtain ⟨z17,e17,Y⟩:=zA7 Y;obtain ⟨kk17,ke17,kz17,kl17⟩:=zJb e17;obtain ⟨g17,vs17,hA17,hR17,hrel17⟩:=D16.ownAt 0 rfl kz17;subst hA17;obtain rfl:=zA0.relE hrel17;refine RH.tk 8 rfl (λw' hDr=>V.ixE kk17 U34 O118 rfl rfl ke17 (Nat.lt_of_lt_of_eq kl17 hl10)) ?_;refine dq [10,11] ?_;obtain ⟨z18,e18,Y⟩:=zA7 Y;obtain ⟨kk18,ke18,kz18,kl18⟩:=zJb e18;obtain ⟨vs18,hR18,hrel18⟩:=D16.ownAtL 0 rfl kz18;obtain rfl:=zA0.relE hrel18;refine RH.tk 12 rfl (λw' hDr=>V.ixE kk18 U34 O118 rfl rfl ke18 (Nat.lt_of_lt_of_eq kl18 hl10)) ?_;refine RH.two 9 13 (by kernel_rfl) rfl rfl rfl rfl (V.ldA (vs:=[_,_]) V118 O118 rfl (Rd.pre hR17 2) rfl) rfl rfl rfl rfl (V.ldA (vs:=[_,_]) V118 O118 rfl (Rd.pre hR18 2) rfl) ?_ ?_
    ·refine RH.ho 13 rfl (V.ldA (vs:=[_,_]) V118 O118 rfl (Rd.pre hR18 2) rfl) ?_;obtain ⟨z20,e20,Y⟩:=zA7 Y;obtain ⟨kk20,ke20,kz20,kl20⟩:=zJb e20;obtain ⟨vs20,hR20,hrel20⟩:=D16.ownAtL 0 rfl kz20;obtain rfl:=zA0.relE hrel20;refine RH.ho 14 rfl (V.ixE kk20 U34 O118 rfl rfl ke20 (Nat.lt_of_lt_of_eq kl20 hl10)) ?_;refine RH.stI 15 (by kernel_rfl) D16 0 rfl ke20 kl20 rfl rfl O118 rfl rfl rfl (vs:=[Str (z17.Key),Str (z17.Val)]) rfl (⟨_,_,rfl,⟨rfl,trivial⟩,⟨rfl,trivial⟩⟩) ?_;intro w21 D21;refine ⟨trivial,?_⟩;obtain ⟨z22,e22,Y⟩:=zA7 Y;obtain ⟨kk22,ke22,kz22,kl22⟩:=zJb e22;obtain ⟨vs22,hR22,hrel22⟩:=D21.ownAtL 0 rfl kz22;obtain rfl:=zA0.relE hrel22;refine RH.ho 16 rfl (V.ixE kk22 U34 O118 rfl rfl ke22 (Nat.lt_of_lt_of_eq kl22 ((zEi _ _ _).trans hl10))) ?_;refine RH.stI 17 (by kernel_rfl) D21 0 rfl ke22 kl22 rfl rfl O118 rfl rfl rfl (vs:=[Str (z18.Key),Str (z18.Val)]) rfl (⟨_,_,rfl,⟨rfl,trivial⟩,⟨rfl,trivial⟩⟩) ?_;intro w23 D23;refine ⟨trivial,?_⟩;refine RH.dn ?_;refine gg 6 rfl ?_;exact N12 ((zLd (zLd y10 y11 z17) (W64 (y11-1)) z18),(W64 (y11-1))) _ _ sA (⟨D23.pk [0],((zEi _ _ _).trans ((zEi _ _ _).trans hl10))⟩) Y
    refine RH.ho 9 rfl (V.ldA (vs:=[_,_]) V118 O118 rfl (Rd.pre hR17 2) rfl) ?_;obtain ⟨z24,e24,Y⟩:=zA7 Y;obtain ⟨kk24,ke24,kz24,kl24⟩:=zJb e24;obtain ⟨vs24,hR24,hrel24⟩:=D16.ownAtL 0 rfl kz24;obtain rfl:=zA0.relE hrel24;refine RH.ho 14 rfl (V.ixE kk24 U34 O118 rfl rfl ke24 (Nat.lt_of_lt_of_eq kl24 hl10)) ?_;refine RH.stI 15 (by kernel_rfl) D16 0 rfl ke24 kl24 rfl rfl O118 rfl rfl rfl (vs:=[Str (z17.Key),Str (z17.Val)]) rfl (⟨_,_,rfl,⟨rfl,trivial⟩,⟨rfl,trivial⟩⟩) ?_;intro w25 D25;refine ⟨trivial,?_⟩;obtain ⟨z26,e26,Y⟩:=zA7 Y;obtain ⟨kk26,ke26,kz26,kl26⟩:=zJb e26;obtain ⟨vs26,hR26,hrel26⟩:=D25.ownAtL 0 rfl kz26;obtain rfl:=zA0.relE hrel26;refine RH.ho 16 rfl (V.ixE kk26 U34 O118 rfl rfl ke26 (Nat.lt_of_lt_of_eq kl26 ((zEi _ _ _).trans hl10))) ?_;refine RH.stI 17 (by kernel_rfl) D25 0 rfl ke26 kl26 rfl rfl O118 rfl rfl rfl (vs:=[Str (z18.Key),Str (z18.Val)]) rfl (⟨_,_,rfl,⟨rfl,trivial⟩,⟨rfl,trivial⟩⟩) ?_;intro w27 D27;refine ⟨trivial,?_⟩;refine RH.dn ?_;refine gg 6 rfl ?_;exact N12 ((zLd (zLd y10 y11 z17) (W64 (y11-1)) z18),(W64 (y11-1))) _ _ sA (⟨D27.pk [0],((zEi _ _ _).trans ((zEi _ _ _).trans hl10))⟩) Y
   exact K2 y10 _ _ sA (⟨D14.pk [0],hl10⟩) Y
  intro j3 Y K3;refine Rn.drawH rfl D12 ?_;intro w28 D28;refine dq [0,1,2,3] ?_;refine zKs Y (RH.partD (t:=21) rfl) (λh29 Y=>?_) (λh29 Y=>?_)
  ·refine dq [4,5,6] ?_;obtain ⟨z30,e30,Y⟩:=zA7 Y;obtain ⟨kk30,ke30,kz30,kl30⟩:=zJb e30;obtain ⟨g30,vs30,hA30,hR30,hrel30⟩:=D28.ownAt 0 rfl kz30;subst hA30;obtain rfl:=zA0.relE hrel30;refine RH.tk 7 rfl (λw' hDr=>V.ixE kk30 U34 O118 rfl rfl ke30 (Nat.lt_of_lt_of_eq kl30 hl10)) ?_;refine RH.tk 8 rfl (λw' hDr=>V.ldA (vs:=[_,_]) V118 O118 rfl (Rd.pre (hR30.ext hDr) 2) rfl) ?_;refine dq [9,10,11] ?_;obtain ⟨z31,e31,Y⟩:=zA7 Y;obtain ⟨kk31,ke31,kz31,kl31⟩:=zJb e31;obtain ⟨vs31,hR31,hrel31⟩:=D28.ownAtL 0 rfl kz31;obtain rfl:=zA0.relE hrel31;refine RH.ho 12 rfl (V.ixE kk31 U34 O118 rfl rfl ke31 (Nat.lt_of_lt_of_eq kl31 hl10)) ?_;refine RH.ho 13 rfl (V.ldA (vs:=[_,_]) V118 O118 rfl (Rd.pre hR31 2) rfl) ?_;obtain ⟨p32,e32,Y⟩:=zA7 Y;refine RH.clV (cK func213) 14 (by kernel_rfl) rfl rfl rfl rfl rfl (zP7 (Z0:=All) e32  :) ?_;rintro _ w32 ⟨rfl,Q32⟩;refine ⟨_,rfl,((Ext.refl _).trans Q32.fr),?_⟩;have D33:=D28.call0 Q32;refine dq [15,16] ?_;refine RH.dn ?_;exact K3 (decide (p32<0)) _ _ sA (D33.pk [0]) Y
  refine dq [4,5,6,7,8,9,10,11,12,13,14,15,16] ?_;refine RH.dn ?_;exact K3 false _ _ sA (D28.pk [0]) Y
 exact K1 y4 _ _ (sb trivial) (⟨D6.pk [0],hl4⟩) Y
theorem m_slices_stableCmpFunc_api_Pair_s1_sim {x0:(List zA0)} {x1:Int} {r:(List zA0)} (Y:zD2 x0 x1=some r) (hL:zKt Z0 w [zAy 118 A0 c0 zA0.rep x0]) :
 Calls prog 231 #[.slice A0 (x0).length c0,iv x1,.func (.func 213) #[] [].toArray] w λx w'=>x=.returned (.tuple #[])∧Hp Z0 (LS [zAy 118 A0 c0 zA0.rep x0]) w w' [zAy 118 A0 c0 zA0.rep r]∧(r).length=(x0).length:=by
 have D0:=hL.start;refine eg func231 11 ?_;obtain ⟨j1,hj1,Y⟩:=jnE Y;refine Rn.joinG (r:=r) (G:=(List zA0)×Int) (λg=>[(0,.slice A0 (x0).length c0),(1,iv x1),(2,.func (.func 213) #[] [].toArray),(6,iv 20),(7,iv (g.2))]) (λg w'=>Hp Z0 (LS [zAy 118 A0 c0 zA0.rep x0]) w w' [zAy 118 A0 c0 zA0.rep (g.1)]∧(g.1).length=(x0).length) (λg=>j1 g.1 g.2) ?_ ?_
 ·subst hj1;clear Y;rintro ⟨y2,y3⟩ w4 ⟨D4,hl2⟩ Y;replace hl2:y2.length=(x0).length:=hl2
  try dsimp only at Y
  refine gg 6 rfl ?_;refine Rn.say (t:=0) (.slice A0 (y2).length c0) rfl (congrArg (λ(n0:Nat)=>Value.slice A0 n0 c0) (show (x0).length=(y2).length from (hl2).symm.trans (rfl))) ?_;refine Rn.say (t:=23) (.slice A0 (y2).length c0) rfl (congrArg (λ(n0:Nat)=>Value.slice A0 n0 c0) (show (x0).length=(y2).length from (hl2).symm.trans (rfl))) ?_;obtain ⟨p5,e5,Y⟩:=zA7 Y;have D6:=D4.cu [] [0];refine Rn.cq (cK func233) (m_slices_insertionSortCmpFunc_api_Pair_s2_sim e5 D6.lend :) ?_;rintro _ w5 ⟨rfl,Q5,hl5_0⟩;refine ⟨_,rfl,?_⟩;have D8:=D6.callAZ Q5;refine gg 1 rfl ?_;refine Rn.jG D0 Y (G:=Unit) (λg=>[]) (λg=>[zAy 118 A0 c0 zA0.rep p5]) (λj g=>j ()) ?_ ?_
  ·rintro _ w9 D9 Y
   try dsimp only at Y
   refine Rn.end0 func231 rfl ?_;obtain rfl:=zF3 Y;exact ⟨rfl,D9.pk [0],(hl5_0.trans hl2)⟩
  intro j2 Y K2;refine gg 1 rfl ?_;refine Rn.loopF (G:=Int) (λg=>[(0,.slice A0 (y2).length c0),(1,iv x1),(2,.func (.func 213) #[] [].toArray),(6,iv g)]) (λg w'=>Hp Z0 (LS [zAy 118 A0 c0 zA0.rep x0]) w w' [zAy 118 A0 c0 zA0.rep p5]) (λn g=>zBd x1 j2 n g) fuel 20 sA (D8.pk [0]) Y (λ_=>rfl) ?_;clear Y;rintro m11 y10 w11 D11 Y N11;replace Y:zBd x1 j2 (m11+1) y10=some r:=Y;rw [zBd] at Y;refine gg 7 rfl ?_;refine aD Y (λh12 Y=>?_) (λh12 Y=>?_)
  ·cases Y
  refine gg 1 rfl ?_;exact K2 () _ _ (sb trivial) (D11.pk [0]) Y
 intro K1;clear hj1;refine gg 1 rfl ?_;refine Rn.loopF (G:=(List zA0)×Int×Int) (λg=>[(0,.slice A0 (x0).length c0),(1,iv x1),(2,.func (.func 213) #[] [].toArray),(6,iv 20),(7,iv (g.2.1)),(8,iv (g.2.2))]) (λg w'=>Hp Z0 (LS [zAy 118 A0 c0 zA0.rep x0]) w w' [zAy 118 A0 c0 zA0.rep (g.1)]∧(g.1).length=(x0).length) (λn g=>zB4 x1 j1 n g.1 g.2.1 g.2.2) fuel (x0,0,20) sA (⟨D0.pk [0],rfl⟩) Y (λ_=>rfl) ?_;clear Y;rintro m16 ⟨y13,y14,y15⟩ w16 ⟨D16,hl13⟩ Y N16;replace hl13:y13.length=(x0).length:=hl13;replace Y:zB4 x1 j1 (m16+1) y13 y14 y15=some r:=Y;rw [zB4] at Y;refine gg 7 rfl ?_;refine bD Y 8 1 (λh17 Y=>?_) (λh17 Y=>?_)
 ·refine Rn.say (t:=0) (.slice A0 (y13).length c0) rfl (congrArg (λ(n0:Nat)=>Value.slice A0 n0 c0) (show (x0).length=(y13).length from (hl13).symm.trans (rfl))) ?_;refine Rn.say (t:=14) (.slice A0 (y13).length c0) rfl (congrArg (λ(n0:Nat)=>Value.slice A0 n0 c0) (show (x0).length=(y13).length from (hl13).symm.trans (rfl))) ?_;obtain ⟨p18,e18,Y⟩:=zA7 Y;have D19:=D16.cu [] [0];refine Rn.cq (cK func233) (m_slices_insertionSortCmpFunc_api_Pair_s2_sim e18 D19.lend :) ?_;rintro _ w18 ⟨rfl,Q18,hl18_0⟩;refine ⟨_,rfl,?_⟩;have D21:=D19.callAZ Q18;refine gg 13 rfl ?_;refine Rn.say (t:=0) (.slice A0 (x0).length c0) rfl (congrArg (λ(n0:Nat)=>Value.slice A0 n0 c0) (show (y13).length=(x0).length from (hl18_0).symm.trans ((hl18_0.trans hl13)))) ?_;exact N16 (p18,y15,(W64 (y15+20))) _ _ sA (⟨D21.pk [0],(hl18_0.trans hl13)⟩) Y
 exact K1 (y13,y14) _ _ sA (⟨D16.pk [0],hl13⟩) Y
theorem m_slices_SortStableFunc_api_Pair_api_Pair_s1_sim {x0:(List zA0)} {r:(List zA0)} (Y:zCq x0=some r) (hL:zKt Z0 w [zAy 118 A0 c0 zA0.rep x0]) :
 Calls prog 212 #[.slice A0 (x0).length c0,.func (.func 213) #[] [].toArray] w λx w'=>x=.returned (.tuple #[])∧Hp Z0 (LS [zAy 118 A0 c0 zA0.rep x0]) w w' [zAy 118 A0 c0 zA0.rep r]∧(r).length=(x0).length:=by
 have D0:=hL.start;refine eg func212 3 ?_;refine Rn.q rfl (V.lenV U34 rfl) (gg 1 rfl ?_);obtain ⟨p2,e2,Y⟩:=zA7 Y;have D3:=D0.cu [] [0];refine Rn.cq (cK func231) (m_slices_stableCmpFunc_api_Pair_s1_sim e2 D3.lend :) ?_;rintro _ w2 ⟨rfl,Q2,hl2_0⟩;refine ⟨_,rfl,?_⟩;have D5:=D3.callAZ Q2;refine gg 1 rfl ?_;refine Rn.end0 func212 rfl ?_;obtain rfl:=zF3 Y;exact ⟨rfl,D5.pk [0],hl2_0⟩
theorem zPv {x0:(List zA0)} {r:(List zA0)} (Y:zKf x0=some r) (f0:(slR A0 c0 zA0.rep x0).H Z0 w) :
 Calls prog 172 #[.slice A0 (x0).length c0] w λx w'=>∃ A_0_0 c_0_0,x=.returned (.slice A_0_0 (r).length c_0_0)∧Hp Z0 No w w' [zAy 118 A_0_0 c_0_0 zA0.rep r]:=by
 obtain ⟨D0,D2,hc0⟩:=knA f0;refine eg func172 7 ?_;obtain ⟨p3,e3,Y⟩:=zA7 Y
 refine Rn.c2 (cK func89) (zG1 (Z0:=All) e3 (zA5 (D2.get 0 rfl)) :) λA3_0_0 c3_0_0 w3 Q3=>?_
 have D5:=D2.callF (flC (zAm zA0.flat _ _ _ _) fl0) Q3;refine gg 5 rfl ?_;obtain ⟨p6,e6,Y⟩:=zA7 Y;have D7:=D5.cu [0] [1];refine Rn.cq (cK func212) (m_slices_SortStableFunc_api_Pair_api_Pair_s1_sim e6 D7.lend :) ?_;rintro _ w6 ⟨rfl,Q6,hl6_0⟩;refine ⟨_,rfl,?_⟩;have D9:=D7.callAZ Q6;refine gg 6 rfl ?_;refine Rn.say (t:=2) (.slice A3_0_0 (p6).length c3_0_0) rfl (congrArg (λ(n0:Nat)=>Value.slice A3_0_0 n0 c3_0_0) (show (p3).length=(p6).length from (hl6_0).symm.trans (rfl))) ?_
 cases Y
 exact Rn.R1 func172 ⟨A3_0_0,c3_0_0,rfl,D9.pk [1]⟩
theorem zR6 {x0:(List UInt8)} {x1:(List zA0)} {r:((List UInt8)×Int)} (Y:zKo x0 x1=some r) (f0:(slR A1 c1 zA0.rep x1).H Z0 w) :
 Calls prog 116 #[Str (x0),.slice A1 (x1).length c1] w λx w'=>x=.returned (.tuple #[Str (r.1),iv r.2])∧Hp Z0 No w w' []:=by
 obtain ⟨D0,D2,hc0⟩:=knA f0;refine eg func116 10 ?_;obtain ⟨p3,e3,Y⟩:=zA7 Y
 refine Rn.c0 (cK func106) (zN8 (Z0:=All) e3 (zA5 (D2.get 0 rfl)) :) D2 λw3 _ D4=>?_
 refine gg 7 rfl ?_;refine bD Y 6 3 (λh5 Y=>?_) (λh5 Y=>?_)
 ·cases Y
  exact Rn.R2 func116 ⟨rfl,D4.pk []⟩
 refine Rn.al D4 Tryz.zeroValue226 λb6 w6 D8=>?_
 replace D8:=D8.nf [_,zAi _ _ [_,_]] rfl;have D9:Hp Z0 No w w6 [slR A1 c1 zA0.rep x1,zah 226 5 b6 none 0 ([]:List UInt8)]:=D8.toBld 1 rfl;refine gg 4 rfl ?_;obtain ⟨z10,e10,Y⟩:=zA7 Y;have D11:=D9.cu [0] [1]
 refine Rn.c2 (cK func171) (zdj _ _ _ _ _ x0 D11.lend e10) λA10 c10 w10 Q10=>?_
 have D12:=D11.callAZ Q10;refine gg 5 rfl ?_;obtain ⟨p13,e13,Y⟩:=zA7 Y
 refine Rn.c2 (cK func172) (zPv (Z0:=All) e13 (zA5 (D12.get 0 rfl)) :) λA13_0_0 c13_0_0 w13 Q13=>?_
 have D15:=D12.callF (flC (zAm zA0.flat _ _ _ _) fl0) Q13;refine Rn.q rfl (V.lenV U34 rfl) (gg 2 rfl ?_);refine Rn.jG D0 Y (G:=(List UInt8)×Option Addr×Nat) (λg=>[(7,pt b6 0)]) (λg=>[zAy 118 A13_0_0 c13_0_0 zA0.rep p13,zah 226 5 b6 (g.2.1) (g.2.2) (g.1)]) (λj g=>j g.1) ?_ ?_
 ·rintro ⟨y16,A17,c17⟩ w18 D18 Y
  try dsimp only at Y
  refine gg 2 rfl ?_;have D20:=D18.cu [0] [1];refine Rn.cq (cK func173) (zfa _ _ _ _ _ D20.lend) ?_;rintro _ w19 ⟨rfl,Q19⟩;refine ⟨_,rfl,?_⟩;have D21:=D20.callAZ Q19;refine gg 3 rfl ?_
  cases Y
  exact Rn.R2 func116 ⟨rfl,D21.pk []⟩
 intro j1 Y K1;refine gg 1 rfl ?_;refine Rn.loopF (G:=Int×(List UInt8)×Option Addr×Nat) (λg=>[(7,pt b6 0),(19,.slice A13_0_0 (p13).length c13_0_0),(20,iv (p13.length:Int)),(21,iv (g.1))]) (λg w'=>Hp Z0 No w w' [zAy 118 A13_0_0 c13_0_0 zA0.rep p13,zah 226 5 b6 (g.2.2.1) (g.2.2.2) (g.2.1)]) (λn g=>zFa p13 j1 n g.1 g.2.1) fuel (0,z10,A10,c10) sA (D15.pk [2,1]) Y (λ_=>rfl) ?_;clear Y;rintro m25 ⟨y22,y23,A24,c24⟩ w25 D25 Y N25;replace Y:zFa p13 j1 (m25+1) y22 y23=some r:=Y;rw [zFa] at Y;refine gg 5 rfl ?_;refine bD Y 5 1 (λh26 Y=>?_) (λh26 Y=>?_)
 ·obtain ⟨z27,e27,Y⟩:=zA7 Y;obtain ⟨kk27,ke27,kz27,kl27⟩:=zJb e27;obtain ⟨g27,vs27,hA27,hR27,hrel27⟩:=D25.ownAt 0 rfl kz27;subst hA27;obtain rfl:=zA0.relE hrel27;refine Rn.q rfl (V.ixE kk27 U34 O118 rfl rfl ke27 kl27) (Rn.q rfl (V.ldA (vs:=[_,_]) V118 O118 rfl (Rd.pre hR27 2) rfl) (Rn.als rfl rfl rfl Tryz.zeroValue118 rfl O118 rfl rfl rfl rfl (by first|exact zJx rfl|(simp [Value.oneCell'];done)) ?_));intro b28 w28 hb28 m28 e28;have D30:=(D25.addBox hb28 e28 m28).nf [_,_,zAi _ _ [_,_]] rfl;refine gg 3 rfl (Rn.q rfl (V.ldB V9 rfl (D30.get 2 rfl) rfl) ?_);obtain ⟨z31,e31,Y⟩:=zA7 Y;refine Rn.q rfl (V.catZ rfl rfl e31) ?_;obtain ⟨z32,e32,Y⟩:=zA7 Y;refine Rn.q rfl (V.catZ rfl rfl e32) (gg 1 rfl (Rn.q rfl (V.ldB V9 rfl (D30.get 2 rfl) rfl) ?_));obtain ⟨z33,e33,Y⟩:=zA7 Y;refine Rn.q rfl (V.catZ rfl rfl e33) ?_;obtain ⟨z34,e34,Y⟩:=zA7 Y;have D35:=D30.cu [0,2] [1]
  refine Rn.c2 (cK func171) (zdj _ _ _ _ _ z33 D35.lend e34) λA34 c34 w34 Q34=>?_
  have D36:=D35.callAZ Q34;refine gg 6 rfl ?_;exact N25 ((W64 (y22+1)),z34,A34,c34) _ _ sA (D36.pk [0,2]) Y
 exact K1 (y23,A24,c24) _ _ sA (D25.pk [0,1]) Y
theorem zS5 {x0:Bool} {r:Int} (Y:zNl x0=some r)  :
 Calls prog 117 #[.bool (x0)] w λx w'=>x=.returned (iv r)∧Hp Z0 No w w' []:=by
 have D0:=Hp.nil Z0 No w;have hc0:=Calm.nil;refine eg func117 9 ?_;refine bS Y 4 5 (λh1 Y=>?_) (λh1 Y=>?_)
 ·cases Y
  exact Rn.R1 func117 ⟨rfl,D0.pk []⟩
 cases Y
 exact Rn.R1 func117 ⟨rfl,D0.pk []⟩
theorem zOi {x0:zA8} {r:((List UInt8)×Int)} (Y:zLl x0=some r) (h0:zA8.rep.rel Z0 w cs0 x0) :
 Calls prog 60 #[.agg cs0.toArray] w λx w'=>x=.returned (.tuple #[Str (r.1),iv r.2])∧Hp Z0 No w w' []:=by
 have D0:=Hp.nil Z0 No w;have hc0:=Calm.nil;obtain ⟨Ar1,cr1,Ar3,cr3,Ar5,cr5,rfl,fs1,fs3,fs5⟩:=zA8.relE h0;obtain ⟨D7,hc0⟩:=D0.kn (r:=slR Ar1 cr1 zA0.rep x0.Attrs) hc0 fs1;obtain ⟨D8,hc0⟩:=D7.kn (r:=slR Ar3 cr3 zAq x0.Hist.Pos.Counts) hc0 fs3;obtain ⟨D9,hc0⟩:=D8.kn (r:=slR Ar5 cr5 zAq x0.Hist.Neg.Counts) hc0 fs5;refine eg func60 2 ?_;refine Rn.box rfl rfl rfl rfl rfl ?_;intro b10 w10 hb10 m10 e10;have D12:=(D9.addBox hb10 e10 m10).nf [_,_,_,zAi _ _ [_,_,_,_,_,_,_,_,_,_,_,_,_,_,_,_,_]] rfl;refine gg 6 rfl (Rn.q rfl (V.ldBA [_,_,_,_,_,_,_,_,_,_,_,_,_,_,_,_,_] V42 O42 rfl (D12.get 3 rfl) rfl rfl) ?_);obtain ⟨p13,e13,Y⟩:=zA7 Y
 refine Rn.c0 (cK func57) (zK0 (Z0:=All) e13 (show zA8.rep.rel All _ _ _ from ⟨_,_,rfl,⟨rfl,trivial⟩,⟨_,_,rfl,⟨_,_,rfl,(zA5 (D12.get 0 rfl)).1,(zA5 (D12.get 0 rfl)).2.1,(zA5 (D12.get 0 rfl)).2.2⟩,⟨_,_,rfl,⟨rfl,trivial⟩,⟨_,_,rfl,⟨rfl,trivial⟩,⟨_,_,rfl,⟨rfl,trivial⟩,⟨_,_,rfl,⟨rfl,trivial⟩,⟨_,_,rfl,⟨rfl,trivial⟩,⟨_,_,rfl,⟨rfl,trivial⟩,⟨_,_,rfl,⟨rfl,trivial⟩,⟨_,_,rfl,⟨rfl,trivial⟩,⟨_,_,rfl,⟨_,_,rfl,⟨rfl,trivial⟩,⟨_,_,rfl,⟨rfl,trivial⟩,⟨_,_,rfl,⟨_,_,rfl,⟨rfl,trivial⟩,⟨_,_,rfl,(zA5 (D12.get 1 rfl)).1,(zA5 (D12.get 1 rfl)).2.1,(zA5 (D12.get 1 rfl)).2.2⟩⟩,⟨_,_,rfl,⟨rfl,trivial⟩,⟨_,_,rfl,(zA5 (D12.get 2 rfl)).1,(zA5 (D12.get 2 rfl)).2.1,(zA5 (D12.get 2 rfl)).2.2⟩⟩⟩⟩⟩,⟨rfl,trivial⟩⟩⟩⟩⟩⟩⟩⟩⟩⟩⟩⟩) :) D12 λw13 _ D14=>?_
 refine gg 7 rfl ?_;refine bD Y 6 4 (λh15 Y=>?_) (λh15 Y=>?_)
 ·cases Y
  exact Rn.R2 func60 ⟨rfl,D14.pk []⟩
 refine Rn.q rfl (V.ldB V9 rfl (D14.get 3 rfl) rfl) (gg 1 rfl (Rn.q rfl (V.ldB V34 rfl (D14.get 3 rfl) rfl) ?_));obtain ⟨p16,e16,Y⟩:=zA7 Y
 refine Rn.c0 (cK func116) (zR6 (Z0:=All) e16 (zA5 (D14.get 0 rfl)) :) D14 λw16 _ D17=>?_
 refine gg 7 rfl ?_;refine Rn.drawH rfl D17 ?_;intro w18 D18;refine dq [0] ?_;obtain ⟨z19,e19,Y⟩:=zA7 Y;refine RH.tk 1 rfl (λw' hDr=>V.catZ rfl rfl e19) ?_;refine dq [2] ?_;refine RH.tk 3 rfl (λw' hDr=>V.ldB V3 rfl ((D18.ext hDr).get 3 rfl) rfl) ?_;refine dq [4] ?_;refine RH.tk 5 rfl (λw' hDr=>V.cv8 U3 U5 rfl) ?_;refine dq [6] ?_;refine RH.tk 7 rfl (λw' hDr=>V.ldB V3 rfl ((D18.ext hDr).get 3 rfl) rfl) ?_;refine dq [8] ?_;refine RH.tk 9 rfl (λw' hDr=>V.cv8 U3 U5 rfl) ?_;refine dq [10] ?_;refine RH.ho 11 rfl (V.ldB V4 rfl (D18.get 3 rfl) rfl) ?_;obtain ⟨p20,e20,Y⟩:=zA7 Y;refine RH.cq (cK func117) 12 (zS5 (Z0:=All) e20  :) ?_;rintro _ w20 ⟨rfl,Q20⟩;refine ⟨_,rfl,((Ext.refl _).trans Q20.fr),?_⟩;have D21:=D18.call0 Q20;refine dq [13] ?_;refine RH.ho 14 rfl (V.cv8 U3 U5 rfl) ?_;refine RH.bslS 15 (by kernel_rfl) rfl rfl rfl U22 el5 rfl rfl rfl rfl (by first|exact szs rfl|(simp [Value.cells];done)) (by decide) ?_;intro b22 w22 hb22 m22 e22;have D23:=D21.addLit (rep:=zBu) (xs:=([toU8 (W64 (48+x0.Kind)),toU8 (W64 (48+x0.Temp)),toU8 (W64 (48+p20))]:List UInt8)) (vss:=[[u8v (toU8 (W64 (48+x0.Kind)))],[u8v (toU8 (W64 (48+x0.Temp)))],[u8v (toU8 (W64 (48+p20)))]]) hb22 e22 m22 rfl rfl rfl ((zCr (λ_ _=>⟨rfl,trivial⟩) (zCr (λ_ _=>⟨rfl,trivial⟩) (zCr (λ_ _=>⟨rfl,trivial⟩) zO4))));refine ⟨(((Ext.refl _).trans Q20.fr).trans e22),?_⟩;refine RH.ho 16 rfl (V.b2s U22 U9 U5 rfl rfl (Own.sl (D23.get 4 rfl))) ?_;obtain ⟨z25,e25,Y⟩:=zA7 Y;refine RH.ho 17 rfl (V.catZ rfl rfl e25) ?_;refine dq [18,19] ?_;refine RH.dn ?_
 cases Y
 exact Rn.R2 func60 ⟨rfl,D23.pk []⟩
theorem zOm  {r:zA3} (Y:zKa  = some r)  :
 Calls prog 61 #[] w λx w'=>∃ F_0 b_0,x=.returned (pt b_0 0)∧Hp Z0 No w w' [zA3.obj F_0 b_0 r]:=by
 have D0:=Hp.nil Z0 No w;have hc0:=Calm.nil;refine eg func61 6 ?_;refine Rn.q rfl (V.bldS (cs:=[_,_]) st172 rfl rfl) (Rn.box rfl rfl rfl rfl rfl ?_);intro b1 w1 hb1 m1 e1;have D3:=(D0.addBox hb1 e1 m1).nf [zAi _ _ [_,_]] rfl;refine gg 2 rfl ?_;have D4:=D3.addNil 5 zBu;have D7:=D4.cu [] [0,1];obtain ⟨F6,D6⟩:=D7.fold (zA3.sh b1 (⟨([]:List UInt8),0⟩:zA3)) ⟨none,0,rfl⟩
 cases Y
 exact Rn.R1 func61 ⟨F6,b1,rfl,D6.pk [0]⟩
theorem zIb  {r:zA9} (Y:zHf  = some r)  :
 Calls prog 79 #[] w λx w'=>∃ b_0,x=.returned (pt b_0 0)∧Hp Z0 No w w' [zAi b_0 186 [iv r.n,zAn r.last,zAn r.step]]:=by
 have D0:=Hp.nil Z0 No w;have hc0:=Calm.nil;refine eg func79 6 ?_;refine Rn.q rfl (V.bldS (cs:=[_,_,_]) st186 rfl rfl) (Rn.box rfl rfl rfl rfl rfl ?_);intro b1 w1 hb1 m1 e1;have D3:=(D0.addBox hb1 e1 m1).nf [zAi _ _ [_,_,_]] rfl;refine gg 2 rfl ?_
 cases Y
 exact Rn.R1 func79 ⟨b1,rfl,D3.pk [0]⟩
theorem zNx  {r:zAj} (Y:zKi  = some r)  :
 Calls prog 80 #[] w λx w'=>∃ b_0,x=.returned (pt b_0 0)∧Hp Z0 No w w' [zAi b_0 190 [iv r.n,zAn r.last,iv r.win.ahead,iv r.win.size]]:=by
 have D0:=Hp.nil Z0 No w;have hc0:=Calm.nil;refine eg func80 6 ?_;refine Rn.q rfl (V.bldS (cs:=[_,_,_,_]) st190 rfl rfl) (Rn.box rfl rfl rfl rfl rfl ?_);intro b1 w1 hb1 m1 e1;have D3:=(D0.addBox hb1 e1 m1).nf [zAi _ _ [_,_,_,_]] rfl;refine gg 2 rfl ?_
 cases Y
 exact Rn.R1 func80 ⟨b1,rfl,D3.pk [0]⟩
theorem zOl  {r:zA4} (Y:zIh  = some r)  :
 Calls prog 81 #[] w λx w'=>∃ F_0 b_0,x=.returned (pt b_0 0)∧Hp Z0 No w w' [zA4.obj F_0 b_0 r]:=by
 have D0:=Hp.nil Z0 No w;have hc0:=Calm.nil;refine eg func81 6 ?_;refine Rn.q rfl (V.bldS (cs:=[_,_,_,_,_,_,_]) zg5 rfl rfl) (Rn.box rfl rfl rfl rfl rfl ?_);intro b1 w1 hb1 m1 e1;have D3:=(D0.addBox hb1 e1 m1).nf [zAi _ _ [_,_,_,_,_,_,_]] rfl;refine gg 2 rfl ?_;have D4:=D3.addNil 35 zAq;have D6:=D4.addNil 35 zAq;have D9:=D6.cu [] [0,1,2];obtain ⟨F8,D8⟩:=D9.fold (zA4.sh b1 (⟨0,(⟨0,(0:UInt64),(⟨0,([]:List UInt64)⟩:zAa),(⟨0,([]:List UInt64)⟩:zAa)⟩:zA2)⟩:zA4)) ⟨none,0,none,0,rfl⟩
 cases Y
 exact Rn.R1 func81 ⟨F8,b1,rfl,D8.pk [0]⟩
theorem zJ5  {r:zAp} (Y:zGd  = some r)  :
 Calls prog 37 #[] w λx w'=>∃ F_0_0 b_0_0 F_0_1 b_0_1 F_0_2 b_0_2 F_0_3 b_0_3 F_0_4 b_0_4 F_0_5 b_0_5 F_0_6 b_0_6,x=.returned (.agg [pt b_0_0 0,pt b_0_1 0,pt b_0_2 0,pt b_0_3 0,pt b_0_4 0,pt b_0_5 0,pt b_0_6 0].toArray)∧Hp Z0 No w w' [zA9.obj F_0_0 b_0_0 r.ords,zA9.obj F_0_1 b_0_1 r.times,zA9.obj F_0_2 b_0_2 r.spans,zA9.obj F_0_3 b_0_3 r.ints,zAj.obj F_0_4 b_0_4 r.re,zAj.obj F_0_5 b_0_5 r.im,zA4.obj F_0_6 b_0_6 r.hists]:=by
 have D0:=Hp.nil Z0 No w;have hc0:=Calm.nil;refine eg func37 2 ?_
 refine Rn.al D0 Tryz.zeroValue80 λb1 w1 D3=>?_
 replace D3:=D3.nf [zAi _ _ [_,_,_,_,_,_,_]] rfl;refine gg 3 rfl ?_;obtain ⟨p4,e4,Y⟩:=zA7 Y
 refine Rn.c1 (cK func79) (zIb (Z0:=All) e4  :) λb4_0 w4 Q4=>?_
 have D6:=D3.callF (flC (zEw _ _ _) fl0) Q4;obtain ⟨p7,e7,Y⟩:=zA7 Y
 refine Rn.c1 (cK func79) (zIb (Z0:=All) e7  :) λb7_0 w7 Q7=>?_
 have D9:=D6.callF (flC (zEw _ _ _) fl0) Q7;obtain ⟨p10,e10,Y⟩:=zA7 Y
 refine Rn.c1 (cK func79) (zIb (Z0:=All) e10  :) λb10_0 w10 Q10=>?_
 have D12:=D9.callF (flC (zEw _ _ _) fl0) Q10;obtain ⟨p13,e13,Y⟩:=zA7 Y
 refine Rn.c1 (cK func79) (zIb (Z0:=All) e13  :) λb13_0 w13 Q13=>?_
 have D15:=D12.callF (flC (zEw _ _ _) fl0) Q13;obtain ⟨p16,e16,Y⟩:=zA7 Y
 refine Rn.c1 (cK func80) (zNx (Z0:=All) e16  :) λb16_0 w16 Q16=>?_
 have D18:=D15.callF (flC (zEw _ _ _) fl0) Q16;obtain ⟨p19,e19,Y⟩:=zA7 Y
 refine Rn.c1 (cK func80) (zNx (Z0:=All) e19  :) λb19_0 w19 Q19=>?_
 have D21:=D18.callF (flC (zEw _ _ _) fl0) Q19;obtain ⟨p22,e22,Y⟩:=zA7 Y
 refine Rn.c2 (cK func81) (zOl (Z0:=All) e22  :) λF22_0 b22_0 w22 Q22=>?_
 have D24:=D21.callF (flC ((zA4.oflat _ _ _)) fl0) Q22;refine Rn.q rfl (V.bldS (cs:=[_,_,_,_,_,_,_]) st80 rfl rfl) (Rn.sq rfl O80 rfl rfl (D24.get 0 rfl) ?_);intro w25 m25 x25;have D26:=(D24.st 0 rfl x25 m25).nf [zAi _ _ [_,_,_,_,_,_,_],_,_,_,_,_,_,_] rfl;refine gg 1 rfl ?_;have D28:=D26.cu [0,2,3,4,5,6,7] [1];obtain ⟨F27,D27⟩:=D28.fold (zA9.sh b4_0 p4) rfl;have D30:=D27.cu [0,2,3,4,5,6,7] [1];obtain ⟨F29,D29⟩:=D30.fold (zA9.sh b7_0 p7) rfl;have D32:=D29.cu [0,2,3,4,5,6,7] [1];obtain ⟨F31,D31⟩:=D32.fold (zA9.sh b10_0 p10) rfl;have D34:=D31.cu [0,2,3,4,5,6,7] [1];obtain ⟨F33,D33⟩:=D34.fold (zA9.sh b13_0 p13) rfl;have D36:=D33.cu [0,2,3,4,5,6,7] [1];obtain ⟨F35,D35⟩:=D36.fold (zAj.sh b16_0 p16) rfl;have D38:=D35.cu [0,2,3,4,5,6,7] [1];obtain ⟨F37,D37⟩:=D38.fold (zAj.sh b19_0 p19) rfl;refine Rn.retG1 func37 rfl (rvC rfl V80 O80 (D26.get 0 rfl) rfl) ?_;obtain rfl:=zF3 Y;exact ⟨F27,b4_0,F29,b7_0,F31,b10_0,F33,b13_0,F35,b16_0,F37,b19_0,F22_0,b22_0,rfl,D37.pk [2,3,4,5,6,7,1]⟩
theorem zS6 {x0:zA8} {x1:Int} {r:((Option zAg)×Int)} (Y:zNp x0 x1=some r) (h0:zA8.rep.rel Z0 w cs0 x0) :
 Calls prog 23 #[.agg cs0.toArray,iv x1] w λx w'=>∃ F_0 b_0,x=.returned (.tuple #[.pointer (zhe b_0 r.1),iv r.2])∧Hp Z0 No w w' [zbj r.1 (λz=>zAg.obj F_0 b_0 z)]:=by
 have D0:=Hp.nil Z0 No w;have hc0:=Calm.nil;obtain ⟨Ar1,cr1,Ar3,cr3,Ar5,cr5,rfl,fs1,fs3,fs5⟩:=zA8.relE h0;obtain ⟨D7,hc0⟩:=D0.kn (r:=slR Ar1 cr1 zA0.rep x0.Attrs) hc0 fs1;obtain ⟨D8,hc0⟩:=D7.kn (r:=slR Ar3 cr3 zAq x0.Hist.Pos.Counts) hc0 fs3;obtain ⟨D9,hc0⟩:=D8.kn (r:=slR Ar5 cr5 zAq x0.Hist.Neg.Counts) hc0 fs5;refine eg func23 2 ?_;refine Rn.box rfl rfl rfl rfl rfl ?_;intro b10 w10 hb10 m10 e10;have D12:=(D9.addBox hb10 e10 m10).nf [_,_,_,zAi _ _ [_,_,_,_,_,_,_,_,_,_,_,_,_,_,_,_,_]] rfl;refine gg 5 rfl (Rn.q rfl (V.ldBA [_,_,_,_,_,_,_,_,_,_,_,_,_,_,_,_,_] V42 O42 rfl (D12.get 3 rfl) rfl rfl) ?_);obtain ⟨p13,e13,Y⟩:=zA7 Y
 refine Rn.c0 (cK func60) (zOi (Z0:=All) e13 (show zA8.rep.rel All _ _ _ from ⟨_,_,rfl,⟨rfl,trivial⟩,⟨_,_,rfl,⟨_,_,rfl,(zA5 (D12.get 0 rfl)).1,(zA5 (D12.get 0 rfl)).2.1,(zA5 (D12.get 0 rfl)).2.2⟩,⟨_,_,rfl,⟨rfl,trivial⟩,⟨_,_,rfl,⟨rfl,trivial⟩,⟨_,_,rfl,⟨rfl,trivial⟩,⟨_,_,rfl,⟨rfl,trivial⟩,⟨_,_,rfl,⟨rfl,trivial⟩,⟨_,_,rfl,⟨rfl,trivial⟩,⟨_,_,rfl,⟨rfl,trivial⟩,⟨_,_,rfl,⟨rfl,trivial⟩,⟨_,_,rfl,⟨_,_,rfl,⟨rfl,trivial⟩,⟨_,_,rfl,⟨rfl,trivial⟩,⟨_,_,rfl,⟨_,_,rfl,⟨rfl,trivial⟩,⟨_,_,rfl,(zA5 (D12.get 1 rfl)).1,(zA5 (D12.get 1 rfl)).2.1,(zA5 (D12.get 1 rfl)).2.2⟩⟩,⟨_,_,rfl,⟨rfl,trivial⟩,⟨_,_,rfl,(zA5 (D12.get 2 rfl)).1,(zA5 (D12.get 2 rfl)).2.1,(zA5 (D12.get 2 rfl)).2.2⟩⟩⟩⟩⟩,⟨rfl,trivial⟩⟩⟩⟩⟩⟩⟩⟩⟩⟩⟩⟩) :) D12 λw13 _ D14=>?_
 refine gg 12 rfl ?_;refine bD Y 6 5 (λh15 Y=>?_) (λh15 Y=>?_)
 ·have D17:=D14.addNone (λz=>zAg.obj No 0 z)
  cases Y
  exact Rn.R2 func23 ⟨No,0,rfl,D17.pk [4]⟩
 obtain ⟨p18,e18,Y⟩:=zA7 Y
 refine Rn.c2 (cK func61) (zOm (Z0:=All) e18  :) λF18_0 b18_0 w18 Q18=>?_
 have D20:=D14.callF (flC ((zA3.oflat _ _ _)) fl0) Q18;obtain ⟨p21,e21,Y⟩:=zA7 Y;refine Rn.cq (cK func37) (zJ5 (Z0:=All) e21  :) ?_;rintro _ w21 ⟨F21_0_0,b21_0_0,F21_0_1,b21_0_1,F21_0_2,b21_0_2,F21_0_3,b21_0_3,F21_0_4,b21_0_4,F21_0_5,b21_0_5,F21_0_6,b21_0_6,rfl,Q21⟩;refine ⟨_,rfl,?_⟩;have D29:=D20.callF (flC ((zA9.oflat _ _ _)) (flC ((zA9.oflat _ _ _)) (flC ((zA9.oflat _ _ _)) (flC ((zA9.oflat _ _ _)) (flC ((zAj.oflat _ _ _)) (flC ((zAj.oflat _ _ _)) (flC ((zA4.oflat _ _ _)) fl0))))))) Q21;replace D29:=D29.nq;refine Rn.q rfl (V.bldS (cs:=[_,_,_,_,_,_,_,_,_,_,_,_]) st122 rfl rfl) (Rn.box rfl rfl rfl rfl rfl ?_);intro b30 w30 hb30 m30 e30;have D32:=(D29.addBox hb30 e30 m30).nf [_,_,_,_,_,_,_,_,_,_,_,_,zAi _ _ [_,_,_,_,_,_,_,_,_,_,_,_]] rfl;refine gg 3 rfl ?_;have D34:=D32.cu [0,1,2,3] [12,4,5,6,7,8,9,10,11];obtain ⟨F33,D33⟩:=D34.fold (zAg.sh b30 (⟨p13.1,x1,0,(-1),p18,p21⟩:zAg)) ⟨F18_0,b18_0,F21_0_0,b21_0_0,F21_0_1,b21_0_1,F21_0_2,b21_0_2,F21_0_3,b21_0_3,F21_0_4,b21_0_4,F21_0_5,b21_0_5,F21_0_6,b21_0_6,rfl⟩;have D35:=D33.toSome (R:=(λz=>zAg.obj F33 b30 z)) 4 rfl
 cases Y
 exact Rn.R2 func23 ⟨F33,b30,rfl,D35.pk [4]⟩
theorem zGm {x0:zA3} {r:Int} (Y:zEf x0=some r) (f0:(fzR (zA3.obj F0 b0 x0)).H Z0 w) :
 Calls prog 62 #[pt b0 0] w λx w'=>x=.returned (iv r)∧Hp Z0 No w w' []:=by
 obtain ⟨D0,D2,hc0⟩:=knA f0;refine eg func62 9 ?_;obtain ⟨_,⟨A3_0,c3_0,rfl⟩,D3⟩:=D2.unfz 0 rfl;replace D3:=D3.nq;have D7:=D3.fzSl 2 rfl;refine Rn.q rfl (V.ldB V3 rfl (D7.getz 1 rfl) rfl) (gg 2 rfl ?_)
 cases Y
 exact Rn.R1 func62 ⟨rfl,D7.pk []⟩
theorem zH3 {b0 o0:Nat} {x0:zA9} {r:zA9} (Y:zGq x0=some r) (f0:(rdR b0 o0 [iv x0.n,zAn x0.last,zAn x0.step]).H Z0 w) :
 Calls prog 118 #[pt b0 o0] w λx w'=>∃ b_0,x=.returned (pt b_0 0)∧Hp Z0 No w w' [zAi b_0 186 [iv r.n,zAn r.last,zAn r.step]]:=by
 obtain ⟨D0,D2,hc0⟩:=knA f0;refine eg func118 8 ?_;refine Rn.q rfl (V.ldA (vs:=[_,_,_]) V186 O186 rfl (Rd.pre (D2.get 0 rfl).2 3) rfl) (Rn.als rfl rfl rfl Tryz.zeroValue186 rfl O186 rfl rfl rfl rfl (by first|exact zJx rfl|(simp [Value.oneCell'];done)) ?_);intro b3 w3 hb3 m3 e3;have D5:=(D2.addBox hb3 e3 m3).nf [_,zAi _ _ [_,_,_]] rfl;refine gg 5 rfl ?_
 cases Y
 exact Rn.R1 func118 ⟨b3,rfl,D5.pk [1]⟩
theorem zLj {b0 o0:Nat} {x0:zAj} {r:zAj} (Y:zJg x0=some r) (f0:(rdR b0 o0 [iv x0.n,zAn x0.last,iv x0.win.ahead,iv x0.win.size]).H Z0 w) :
 Calls prog 119 #[pt b0 o0] w λx w'=>∃ b_0,x=.returned (pt b_0 0)∧Hp Z0 No w w' [zAi b_0 190 [iv r.n,zAn r.last,iv r.win.ahead,iv r.win.size]]:=by
 obtain ⟨D0,D2,hc0⟩:=knA f0;refine eg func119 8 ?_;refine Rn.q rfl (V.ldA (vs:=[_,_,_,_]) V190 O190 rfl (Rd.pre (D2.get 0 rfl).2 4) rfl) (Rn.als rfl rfl rfl Tryz.zeroValue190 rfl O190 rfl rfl rfl rfl (by first|exact zJx rfl|(simp [Value.oneCell'];done)) ?_);intro b3 w3 hb3 m3 e3;have D5:=(D2.addBox hb3 e3 m3).nf [_,zAi _ _ [_,_,_,_]] rfl;refine gg 5 rfl ?_
 cases Y
 exact Rn.R1 func119 ⟨b3,rfl,D5.pk [1]⟩
theorem zH1 {x0:(List UInt64)} {r:(List UInt64)} (Y:zDb x0=some r) (f0:(slR A0 c0 zAq x0).H Z0 w) :
 Calls prog 148 #[.slice A0 (x0).length c0] w λx w'=>∃ A_0_0 c_0_0,x=.returned (.slice A_0_0 (r).length c_0_0)∧Hp Z0 No w w' [zAy 35 A_0_0 c_0_0 zAq r]:=by
 exact zZz w A0 c0 x0 f0 Y
theorem zHn {x0:zA2} {r:zA2} (Y:zE1 x0=some r) (h0:zA2.rep.rel Z0 w cs0 x0) :
 Calls prog 90 #[.agg cs0.toArray] w λx w'=>∃ A_0_0 c_0_0 A_0_1 c_0_1,x=.returned (.agg [iv r.Scale,zAn r.Zero,iv r.Pos.Offset,.slice A_0_0 (r.Pos.Counts).length c_0_0,iv r.Neg.Offset,.slice A_0_1 (r.Neg.Counts).length c_0_1].toArray)∧Hp Z0 No w w' [zAy 35 A_0_0 c_0_0 zAq r.Pos.Counts,zAy 35 A_0_1 c_0_1 zAq r.Neg.Counts]:=by
 have D0:=Hp.nil Z0 No w;have hc0:=Calm.nil;obtain ⟨Ar1,cr1,Ar3,cr3,rfl,fs1,fs3⟩:=zA2.relE h0;obtain ⟨D5,hc0⟩:=D0.kn (r:=slR Ar1 cr1 zAq x0.Pos.Counts) hc0 fs1;obtain ⟨D6,hc0⟩:=D5.kn (r:=slR Ar3 cr3 zAq x0.Neg.Counts) hc0 fs3;refine eg func90 2 ?_;refine Rn.box rfl rfl rfl rfl rfl ?_;intro b7 w7 hb7 m7 e7;have D9:=(D6.addBox hb7 e7 m7).nf [_,_,zAi _ _ [_,_,_,_,_,_]] rfl
 refine Rn.al D9 Tryz.zeroValue40 λb10 w10 D12=>?_
 replace D12:=D12.nf [_,_,_,zAi _ _ [_,_,_,_,_,_]] rfl;refine gg 2 rfl ?_;refine Rn.drawK 10 rfl D12 (by kernel_rfl) ?_;intro w13 D13;refine dq [0,1] ?_;refine RH.tk 2 rfl (λw' hDr=>V.ldB V36 rfl ((D13.ext hDr).get 2 rfl) rfl) ?_;refine dq [4,5] ?_;refine RH.tk 6 rfl (λw' hDr=>V.ldB V36 rfl ((D13.ext hDr).get 2 rfl) rfl) ?_;obtain ⟨p14,e14,Y⟩:=zA7 Y;refine RH.cq (cK func148) 3 (zH1 (Z0:=All) e14 (zA5 (D13.get 0 rfl)) :) ?_;rintro _ w14 ⟨A14_0_0,c14_0_0,rfl,Q14⟩;refine ⟨_,rfl,((Ext.refl _).trans Q14.fr),?_⟩;have D16:=D13.callF (flC (zAm zCz _ _ _ _) fl0) Q14;refine dq [8,9] ?_;obtain ⟨p17,e17,Y⟩:=zA7 Y;refine RH.cq (cK func148) 7 (zH1 (Z0:=All) e17 (zA5 (D16.get 1 rfl)) :) ?_;rintro _ w17 ⟨A17_0_0,c17_0_0,rfl,Q17⟩;refine ⟨_,rfl,(((Ext.refl _).trans Q14.fr).trans Q17.fr),?_⟩;have D19:=D16.callF (flC (zAm zCz _ _ _ _) fl0) Q17;refine RG.tailK (by kernel_rfl) ?_;refine RH.st 10 (by kernel_rfl) rfl rfl O36 rfl rfl rfl rfl (by first|exact zJx rfl|(simp [Value.oneCell'];done)) (D19.get 2 rfl) (by first|exact nbl rfl|(simp;done)) ?_;intro w20 m20 x20;have D21:=(D19.st 2 rfl x20 m20).nf [_,_,zAi _ _ [_,_,_,_,_,_],_,_,_] rfl;refine ⟨trivial,?_⟩;refine dq [11,12] ?_;refine RH.st 13 (by kernel_rfl) rfl rfl O36 rfl rfl rfl rfl (by first|exact zJx rfl|(simp [Value.oneCell'];done)) (D21.get 2 rfl) (by first|exact nbl rfl|(simp;done)) ?_;intro w22 m22 x22;have D23:=(D21.st 2 rfl x22 m22).nf [_,_,zAi _ _ [_,_,_,_,_,_],_,_,_] rfl;refine ⟨trivial,?_⟩;refine RH.dn ?_;refine gg 2 rfl (Rn.q rfl (V.ldBA [_,_,_,_,_,_] V40 O40 rfl (D23.get 2 rfl) rfl rfl) (Rn.sq rfl O40 rfl rfl (D23.get 3 rfl) ?_));intro w24 m24 x24;have D25:=(D23.st 3 rfl x24 m24).nf [_,_,_,zAi _ _ [_,_,_,_,_,_],_,_] rfl;refine gg 1 rfl ?_;refine Rn.retG1 func90 rfl (rvC rfl V40 O40 (D25.get 3 rfl) rfl) ?_;obtain rfl:=zF3 Y;exact ⟨A14_0_0,c14_0_0,A17_0_0,c17_0_0,rfl,D25.pk [4,5]⟩
theorem zN9 {x0:zA4} {r:zA4} (Y:zIp x0=some r) (f0:(fzR (zA4.obj F0 b0 x0)).H Z0 w) :
 Calls prog 120 #[pt b0 0] w λx w'=>∃ F_0 b_0,x=.returned (pt b_0 0)∧Hp Z0 No w w' [zA4.obj F_0 b_0 r]:=by
 obtain ⟨D0,D2,hc0⟩:=knA f0;refine eg func120 5 ?_;obtain ⟨_,⟨A4_0,c4_0,A4_1,c4_1,rfl⟩,D4⟩:=D2.unfz 0 rfl;replace D4:=D4.nq;have D10:=D4.fzSl 2 rfl;have D11:=D10.fzSl 3 rfl;refine Rn.drawH rfl D11 ?_;intro w3 D3;refine dq [0,1,2] ?_;refine RH.tk 3 rfl (λw' hDr=>V.ldB V3 rfl ((D3.ext hDr).getz 1 rfl) rfl) ?_;refine dq [4,5,6] ?_;refine RH.ho 7 rfl (V.ldBA [_,_,_,_,_,_] V40 O40 rfl (D3.getz 1 rfl) rfl rfl) ?_;obtain ⟨p12,e12,Y⟩:=zA7 Y;refine RH.cq (cK func90) 8 (zHn (Z0:=All) e12 (show zA2.rep.rel All _ _ _ from ⟨_,_,rfl,⟨rfl,trivial⟩,⟨_,_,rfl,⟨rfl,trivial⟩,⟨_,_,rfl,⟨_,_,rfl,⟨rfl,trivial⟩,⟨_,_,rfl,(zA5 (D3.get 4 rfl)).1,(zA5 (D3.get 4 rfl)).2.1,(zA5 (D3.get 4 rfl)).2.2⟩⟩,⟨_,_,rfl,⟨rfl,trivial⟩,⟨_,_,rfl,(zA5 (D3.get 5 rfl)).1,(zA5 (D3.get 5 rfl)).2.1,(zA5 (D3.get 5 rfl)).2.2⟩⟩⟩⟩⟩) :) ?_;rintro _ w12 ⟨A12_0_0,c12_0_0,A12_0_1,c12_0_1,rfl,Q12⟩;refine ⟨_,rfl,((Ext.refl _).trans Q12.fr),?_⟩;have D15:=D3.callF (flC (zAm zCz _ _ _ _) (flC (zAm zCz _ _ _ _) fl0)) Q12;refine RH.ho 9 rfl (V.bldS (cs:=[_,_,_,_,_,_,_]) zg5 rfl rfl) ?_;refine RH.box 10 (by kernel_rfl) rfl rfl rfl rfl rfl ?_;intro b16 w16 hb16 m16 e16
 have hfr16:w3.heap.size≤b16:=by have hh:=(((Ext.refl _).trans Q12.fr):Ext w3 w12).size;omega
 have D18:=(D15.addBox hb16 e16 m16).nf [_,_,_,_,_,_,_,_,zAi _ _ [_,_,_,_,_,_,_]] rfl;refine ⟨(((Ext.refl _).trans Q12.fr).trans e16),?_⟩;refine dq [11] ?_;refine RH.dn ?_;have D20:=D18.cu [0,1,2,3,4,5] [8,6,7];obtain ⟨F19,D19⟩:=D20.fold (zA4.sh b16 (⟨x0.n,p12⟩:zA4)) ⟨A12_0_0,c12_0_0,A12_0_1,c12_0_1,rfl⟩
 cases Y
 exact Rn.R1 func120 ⟨F19,b16,rfl,D19.pk [6]⟩
theorem zHu {F0_ords:Nat→Prop} {b0_ords:Nat} {F0_times:Nat→Prop} {b0_times:Nat} {F0_spans:Nat→Prop} {b0_spans:Nat} {F0_ints:Nat→Prop} {b0_ints:Nat} {F0_re:Nat→Prop} {b0_re:Nat} {F0_im:Nat→Prop} {b0_im:Nat} {F0_hists:Nat→Prop} {b0_hists:Nat} {x0:zAp} {r:zAp} (Y:zHz x0=some r) (f0:(fzR (zA9.obj F0_ords b0_ords x0.ords)).H Z0 w) (f1:(fzR (zA9.obj F0_times b0_times x0.times)).H Z0 w) (f2:(fzR (zA9.obj F0_spans b0_spans x0.spans)).H Z0 w) (f3:(fzR (zA9.obj F0_ints b0_ints x0.ints)).H Z0 w) (f4:(fzR (zAj.obj F0_re b0_re x0.re)).H Z0 w) (f5:(fzR (zAj.obj F0_im b0_im x0.im)).H Z0 w) (f6:(fzR (zA4.obj F0_hists b0_hists x0.hists)).H Z0 w) :
 Calls prog 63 #[.agg [pt b0_ords 0,pt b0_times 0,pt b0_spans 0,pt b0_ints 0,pt b0_re 0,pt b0_im 0,pt b0_hists 0].toArray] w λx w'=>∃ F_0_0 b_0_0 F_0_1 b_0_1 F_0_2 b_0_2 F_0_3 b_0_3 F_0_4 b_0_4 F_0_5 b_0_5 F_0_6 b_0_6,x=.returned (.agg [pt b_0_0 0,pt b_0_1 0,pt b_0_2 0,pt b_0_3 0,pt b_0_4 0,pt b_0_5 0,pt b_0_6 0].toArray)∧Hp Z0 No w w' [zA9.obj F_0_0 b_0_0 r.ords,zA9.obj F_0_1 b_0_1 r.times,zA9.obj F_0_2 b_0_2 r.spans,zA9.obj F_0_3 b_0_3 r.ints,zAj.obj F_0_4 b_0_4 r.re,zAj.obj F_0_5 b_0_5 r.im,zA4.obj F_0_6 b_0_6 r.hists]:=by
 obtain ⟨D0,D8,hc0⟩:=knA f0;obtain ⟨D9,hc0⟩:=D8.kn hc0 f1;obtain ⟨D10,hc0⟩:=D9.kn hc0 f2;obtain ⟨D11,hc0⟩:=D10.kn hc0 f3;obtain ⟨D12,hc0⟩:=D11.kn hc0 f4;obtain ⟨D13,hc0⟩:=D12.kn hc0 f5;obtain ⟨D14,hc0⟩:=D13.kn hc0 f6;refine eg func63 2 ?_;refine Rn.box rfl rfl rfl rfl rfl ?_;intro b15 w15 hb15 m15 e15;have D17:=(D14.addBox hb15 e15 m15).nf [_,_,_,_,_,_,_,zAi _ _ [_,_,_,_,_,_,_]] rfl
 refine Rn.al D17 Tryz.zeroValue80 λb18 w18 D20=>?_
 replace D20:=D20.nf [_,_,_,_,_,_,_,_,zAi _ _ [_,_,_,_,_,_,_]] rfl;refine gg 2 rfl ?_;obtain ⟨_,rfl,D22⟩:=D20.unfz 0 rfl;replace D22:=D22.nq;obtain ⟨_,rfl,D24⟩:=D22.unfz 1 rfl;replace D24:=D24.nq;obtain ⟨_,rfl,D26⟩:=D24.unfz 2 rfl;replace D26:=D26.nq;obtain ⟨_,rfl,D28⟩:=D26.unfz 3 rfl;replace D28:=D28.nq;obtain ⟨_,rfl,D30⟩:=D28.unfz 4 rfl;replace D30:=D30.nq;obtain ⟨_,rfl,D32⟩:=D30.unfz 5 rfl;replace D32:=D32.nq;refine Rn.drawK 22 rfl D32 (by kernel_rfl) ?_;intro w21 D21;refine dq [0] ?_;refine RH.tk 1 rfl (λw' hDr=>V.ldB V76 rfl ((D21.ext hDr).get 7 rfl) rfl) ?_;refine dq [3] ?_;refine RH.tk 4 rfl (λw' hDr=>V.ldB V76 rfl ((D21.ext hDr).get 7 rfl) rfl) ?_;refine dq [6] ?_;refine RH.tk 7 rfl (λw' hDr=>V.ldB V76 rfl ((D21.ext hDr).get 7 rfl) rfl) ?_;refine dq [9] ?_;refine RH.tk 10 rfl (λw' hDr=>V.ldB V76 rfl ((D21.ext hDr).get 7 rfl) rfl) ?_;refine dq [12] ?_;refine RH.tk 13 rfl (λw' hDr=>V.ldB V77 rfl ((D21.ext hDr).get 7 rfl) rfl) ?_;refine dq [15] ?_;refine RH.tk 16 rfl (λw' hDr=>V.ldB V77 rfl ((D21.ext hDr).get 7 rfl) rfl) ?_;refine dq [18] ?_;refine RH.tk 19 rfl (λw' hDr=>V.ldB V78 rfl ((D21.ext hDr).get 7 rfl) rfl) ?_;obtain ⟨p34,e34,Y⟩:=zA7 Y;refine RH.cq (cK func118) 2 (zH3 (Z0:=All) e34 (zGo (zXv (D21.get 9 rfl))) :) ?_;rintro _ w34 ⟨b34_0,rfl,Q34⟩;refine ⟨_,rfl,((Ext.refl _).trans Q34.fr),?_⟩;have D36:=D21.callF (flC (zEw _ _ _) fl0) Q34;obtain ⟨p37,e37,Y⟩:=zA7 Y;refine RH.cq (cK func118) 5 (zH3 (Z0:=All) e37 (zGo (zXv (D36.get 10 rfl))) :) ?_;rintro _ w37 ⟨b37_0,rfl,Q37⟩;refine ⟨_,rfl,(((Ext.refl _).trans Q34.fr).trans Q37.fr),?_⟩;have D39:=D36.callF (flC (zEw _ _ _) fl0) Q37;obtain ⟨p40,e40,Y⟩:=zA7 Y;refine RH.cq (cK func118) 8 (zH3 (Z0:=All) e40 (zGo (zXv (D39.get 11 rfl))) :) ?_;rintro _ w40 ⟨b40_0,rfl,Q40⟩;refine ⟨_,rfl,((((Ext.refl _).trans Q34.fr).trans Q37.fr).trans Q40.fr),?_⟩;have D42:=D39.callF (flC (zEw _ _ _) fl0) Q40;obtain ⟨p43,e43,Y⟩:=zA7 Y;refine RH.cq (cK func118) 11 (zH3 (Z0:=All) e43 (zGo (zXv (D42.get 12 rfl))) :) ?_;rintro _ w43 ⟨b43_0,rfl,Q43⟩;refine ⟨_,rfl,(((((Ext.refl _).trans Q34.fr).trans Q37.fr).trans Q40.fr).trans Q43.fr),?_⟩;have D45:=D42.callF (flC (zEw _ _ _) fl0) Q43;obtain ⟨p46,e46,Y⟩:=zA7 Y;refine RH.cq (cK func119) 14 (zLj (Z0:=All) e46 (zGo (zXv (D45.get 13 rfl))) :) ?_;rintro _ w46 ⟨b46_0,rfl,Q46⟩;refine ⟨_,rfl,((((((Ext.refl _).trans Q34.fr).trans Q37.fr).trans Q40.fr).trans Q43.fr).trans Q46.fr),?_⟩;have D48:=D45.callF (flC (zEw _ _ _) fl0) Q46;obtain ⟨p49,e49,Y⟩:=zA7 Y;refine RH.cq (cK func119) 17 (zLj (Z0:=All) e49 (zGo (zXv (D48.get 14 rfl))) :) ?_;rintro _ w49 ⟨b49_0,rfl,Q49⟩;refine ⟨_,rfl,(((((((Ext.refl _).trans Q34.fr).trans Q37.fr).trans Q40.fr).trans Q43.fr).trans Q46.fr).trans Q49.fr),?_⟩;have D51:=D48.callF (flC (zEw _ _ _) fl0) Q49;obtain ⟨p52,e52,Y⟩:=zA7 Y;refine RH.cq (cK func120) 20 (zN9 (Z0:=All) e52 (zU0 (D51.get 6 rfl)) :) ?_;rintro _ w52 ⟨F52_0,b52_0,rfl,Q52⟩;refine ⟨_,rfl,((((((((Ext.refl _).trans Q34.fr).trans Q37.fr).trans Q40.fr).trans Q43.fr).trans Q46.fr).trans Q49.fr).trans Q52.fr),?_⟩;have D54:=D51.callF (flC ((zA4.oflat _ _ _)) fl0) Q52;refine RH.ho 21 rfl (V.bldS (cs:=[_,_,_,_,_,_,_]) st80 rfl rfl) ?_;refine RG.tailK (by kernel_rfl) ?_;refine RH.st 22 (by kernel_rfl) rfl rfl O80 rfl rfl rfl rfl (by first|exact zJx rfl|(simp [Value.oneCell'];done)) (D54.get 8 rfl) (by first|exact nbl rfl|(simp;done)) ?_;intro w55 m55 x55;have D56:=(D54.st 8 rfl x55 m55).nf [_,_,_,_,_,_,_,_,zAi _ _ [_,_,_,_,_,_,_],_,_,_,_,_,_,_,_,_,_,_,_,_] rfl;refine ⟨trivial,?_⟩;refine RH.dn ?_;have D58:=D56.cu [0,1,2,3,4,5,6,7,8,9,10,11,12,13,14,16,17,18,19,20,21] [15];obtain ⟨F57,D57⟩:=D58.fold (zA9.sh b34_0 p34) rfl;have D60:=D57.cu [0,1,2,3,4,5,6,7,8,9,10,11,12,13,14,16,17,18,19,20,21] [15];obtain ⟨F59,D59⟩:=D60.fold (zA9.sh b37_0 p37) rfl;have D62:=D59.cu [0,1,2,3,4,5,6,7,8,9,10,11,12,13,14,16,17,18,19,20,21] [15];obtain ⟨F61,D61⟩:=D62.fold (zA9.sh b40_0 p40) rfl;have D64:=D61.cu [0,1,2,3,4,5,6,7,8,9,10,11,12,13,14,16,17,18,19,20,21] [15];obtain ⟨F63,D63⟩:=D64.fold (zA9.sh b43_0 p43) rfl;have D66:=D63.cu [0,1,2,3,4,5,6,7,8,9,10,11,12,13,14,16,17,18,19,20,21] [15];obtain ⟨F65,D65⟩:=D66.fold (zAj.sh b46_0 p46) rfl;have D68:=D65.cu [0,1,2,3,4,5,6,7,8,9,10,11,12,13,14,16,17,18,19,20,21] [15];obtain ⟨F67,D67⟩:=D68.fold (zAj.sh b49_0 p49) rfl;refine Rn.retG1 func63 rfl (rvC rfl V80 O80 (D56.get 8 rfl) rfl) ?_;obtain rfl:=zF3 Y;exact ⟨F57,b34_0,F59,b37_0,F61,b40_0,F63,b43_0,F65,b46_0,F67,b49_0,F52_0,b52_0,rfl,D67.pk [16,17,18,19,20,21,15]⟩
theorem zSu {x0:Int} {r:UInt64} (Y:zOw x0=some r)  :
 Calls prog 215 #[iv x0] w λx w'=>x=.returned (zAn r)∧Hp Z0 No w w' []:=by
 have D0:=Hp.nil Z0 No w;have hc0:=Calm.nil;refine eg func215 7 ?_;refine Rn.q rfl (V.cv64 U3 U35 rfl) (Rn.q rfl (V.sh64 rfl rfl _ 1 rfl rfl (za4 _ _ _ 1 (by decide))) (gg 1 rfl (Rn.q rfl (V.shrZ (m:=63) rfl rfl) (Rn.q rfl (V.cv64 U3 U35 rfl) (Rn.q rfl (V.o64 rfl rfl ((zAf x0)<<<UInt64.ofNat 1) (zAf (shrZ x0 63)) rfl rfl (zUc _ _ _)) (gg 2 rfl ?_))))))
 cases Y
 exact Rn.R1 func215 ⟨rfl,D0.pk []⟩
theorem zKw  {r:zP1} (Y:zI3  = some r)  :
 Calls prog 180 #[] w λx w'=>x=.returned (.agg [iv r.a0,iv r.a1,iv r.a2,iv r.a3].toArray)∧Hp Z0 No w w' []:=by
 have D0:=Hp.nil Z0 No w;have hc0:=Calm.nil;refine eg func180 2 ?_
 refine Rn.al D0 Tryz.zeroValue234 λb1 w1 D3=>?_
 replace D3:=D3.nf [zAi _ _ [_,_,_,_]] rfl;refine gg 3 rfl (Rn.q rfl (V.bldA (cs:=[_,_,_,_]) _ zcg (zQj 4 1) rfl rfl) (Rn.sq rfl O234 rfl rfl (D3.get 0 rfl) ?_));intro w4 m4 x4;have D5:=(D3.st 0 rfl x4 m4).nf [zAi _ _ [_,_,_,_]] rfl;refine gg 1 rfl ?_;refine Rn.retG1 func180 rfl (rvC rfl V234 O234 (D5.get 0 rfl) rfl) ?_;obtain rfl:=zF3 Y;exact ⟨rfl,D5.pk []⟩
theorem zNy {x0:UInt64} {r:Int} (Y:zJ9 x0=some r)  :
 Calls prog 179 #[zAn x0] w λx w'=>x=.returned (iv r)∧Hp Z0 No w w' []:=by
 have D0:=Hp.nil Z0 No w;have hc0:=Calm.nil;refine eg func179 7 ?_;obtain ⟨p1,e1,Y⟩:=zA7 Y
 refine Rn.c0 (cK func180) (zKw (Z0:=All) e1  :) D0 λw1 _ D2=>?_
 refine gg 2 rfl ?_;refine Rn.jG D0 Y (G:=Unit) (λg=>[]) (λg=>[]) (λj g=>j ()) ?_ ?_
 ·rintro _ w3 D3 Y
  try dsimp only at Y
  refine gg 4 rfl ?_
  cases Y
  exact Rn.R1 func179 ⟨rfl,D3.pk []⟩
 intro j1 Y K1;refine gg 1 rfl ?_;refine Rn.loopF (G:=Int) (λg=>[(0,zAn x0),(5,.agg [iv p1.a0,iv p1.a1,iv p1.a2,iv p1.a3].toArray),(6,iv g)]) (λg w'=>Hp Z0 No w w' []) (λn g=>zF5 x0 p1 j1 n g) fuel 0 sA (D2.pk []) Y (λ_=>rfl) ?_;clear Y;rintro m5 y4 w5 D5 Y N5;replace Y:zF5 x0 p1 j1 (m5+1) y4=some r:=Y;rw [zF5] at Y;refine gg 5 rfl ?_;refine bD Y 6 1 (λh6 Y=>?_) (λh6 Y=>?_)
 ·obtain ⟨z7,e7,Y⟩:=zA7 Y;refine Rn.q rfl (V.arE1 zcg V3 rfl rfl (zQx e7 rfl) (zQr (λx:Int=>(.int .i64 x:Value)) e7)) (gg 7 rfl (Rn.q rfl (V.cv64 U3 U137 rfl) (Rn.q rfl (V.shr64 (a:=x0) (m:=(zAf z7).toNat) rfl rfl) (Rn.q rfl (V.eql rfl rfl) (gg 1 rfl ?_)))));refine bD Y 5 6 (λh8 Y=>?_) (λh8 Y=>?_)
  ·cases Y
   exact Rn.R1 func179 ⟨rfl,D5.pk []⟩
  exact N5 (W64 (y4+1)) _ _ sA (D5.pk []) Y
 exact K1 () _ _ (sb trivial) (D5.pk []) Y
theorem zJn {x0:zA3} {r:Int} (Y:zDg x0=some r) (f0:(fzR (zA3.obj F0 b0 x0)).H Z0 w) :
 Calls prog 217 #[pt b0 0] w λx w'=>x=.returned (iv r)∧Hp Z0 No w w' []:=by
 obtain ⟨D0,D2,hc0⟩:=knA f0;refine eg func217 5 ?_;obtain ⟨_,⟨A4_0,c4_0,rfl⟩,D4⟩:=D2.unfz 0 rfl;replace D4:=D4.nq;have D8:=D4.fzSl 2 rfl;refine Rn.drawP rfl D8 ?_;intro w3 D3;refine dq [0,1,2] ?_;refine RH.tp 3 rfl (V.ldB V22 rfl (D3.getz 1 rfl) rfl) ?_;refine RH.tp 4 rfl (V.lenV U22 rfl) ?_;refine dq [5,6,7,8] ?_;refine RH.tp 9 rfl (V.ldB V3 rfl (D3.getz 1 rfl) rfl) ?_;refine dq [10,11] ?_;refine RH.dn ?_
 cases Y
 exact Rn.R1 func217 ⟨rfl,D3.pk []⟩
theorem m_bitio_Writer_Put_sim {x0:zA3} {x1:UInt64} {x2:Int} {r:(Bool×zA3)} (Y:zAk x0 x1 x2=some r) (hL:zKt Z0 w [zA3.obj F0 b0 x0]) :
 Calls prog 176 #[pt b0 0,zAn x1,iv x2] w λx w'=>∃ F_p0,x=.returned (.bool (r.1))∧Hp Z0 (LS [zA3.obj F0 b0 x0]) w w' [zA3.obj F_p0 b0 r.2]:=by
 have D0:=hL.start;refine eg func176 10 ?_;refine Rn.cutR [6,7,8,9,10,11,12,13,14,15,16] [(0,pt b0 0),(1,zAn x1),(2,iv x2),(15,.bool (decide ((x2<0)∨(x2>64))))] (λK2=>?_) ?_
 ·refine Rn.partD (t:=12) rfl (λh3=>?_) (λh3=>?_)
  ·refine gg 3 rfl ?_;exact K2 _ sA
  refine gg 3 rfl ?_;exact K2 _ sA
 refine gg 1 rfl ?_;refine Rn.jR D0 Y (G:=Bool×(Nat→Prop)) [] (λg=>[(0,pt b0 0),(1,zAn x1),(2,iv x2),(26,.bool ((g.1)))]) (λg=>[zA3.obj (g.2) b0 x0]) (λj g=>j g.1) ?_ ?_
 ·rintro ⟨y5,F4⟩ w6 D6 Y
  try dsimp only at Y
  refine gg 1 rfl ?_;refine bS Y 4 2 (λh7 Y=>?_) (λh7 Y=>?_)
  ·cases Y
   exact Rn.R1 func176 ⟨F4,rfl,D6.pk [0]⟩
  refine Rn.jG D0 Y (G:=zA3×(Nat→Prop)) (λg=>[]) (λg=>[zA3.obj (g.2) b0 (g.1)]) (λj g=>j g.1) ?_ ?_
  ·rintro ⟨y8,F8⟩ w9 D9 Y
   try dsimp only at Y
   refine gg 4 rfl ?_
   cases Y
   exact Rn.R1 func176 ⟨F8,rfl,D9.pk [0]⟩
  intro j2 Y K2;refine gg 1 rfl ?_;refine Rn.loopF (G:=Int×zA3×(Nat→Prop)) (λg=>[(0,pt b0 0),(1,zAn x1),(2,iv (g.1))]) (λg w'=>Hp Z0 (LS [zA3.obj F0 b0 x0]) w w' [zA3.obj (g.2.2) b0 (g.2.1)]) (λn g=>zCy x1 j2 n g.1 g.2.1) fuel (x2,x0,F4) sA (D6.pk [0]) Y (λ_=>rfl) ?_;clear Y;rintro m12 ⟨y10,y11,F11⟩ w12 D12 Y N12;replace Y:zCy x1 j2 (m12+1) y10 y11=some r:=Y;rw [zCy] at Y;refine gg 6 rfl ?_;refine bD Y 6 1 (λh13 Y=>?_) (λh13 Y=>?_)
  ·obtain ⟨p14,e14,Y⟩:=zA7 Y
   refine Rn.c0 (cK func217) (zJn (Z0:=All) e14 (zD8 (D12.get 0 rfl)) :) D12 λw14 _ D15=>?_
   refine gg 2 rfl ?_;refine Rn.jG D0 Y (G:=zA3×(Nat→Prop)) (λg=>[(0,pt b0 0),(1,zAn x1),(2,iv y10)]) (λg=>[zA3.obj (g.2) b0 (g.1)]) (λj g=>j g.1) ?_ ?_
   ·rintro ⟨y16,F16⟩ w17 D17 Y
    try dsimp only at Y
    refine gg 3 rfl ?_;obtain ⟨p18,e18,Y⟩:=zA7 Y
    refine Rn.c0 (cK func217) (zJn (Z0:=All) e18 (zD8 (D17.get 0 rfl)) :) D17 λw18 _ D19=>?_
    refine gg 6 rfl (Rn.q rfl (V.mini rfl rfl) (gg 8 rfl (Rn.q rfl (V.cv64 U3 U137 rfl) (Rn.q rfl (V.shr64 (a:=x1) (m:=(zAf (W64 (y10-(min y10 p18)))).toNat) rfl rfl) (gg 8 rfl ?_)))));refine Rn.jG D0 Y (G:=UInt64×(Nat→Prop)) (λg=>[(0,pt b0 0),(1,zAn x1),(2,iv y10),(7,iv p18),(8,iv (min y10 p18)),(9,zAn (g.1))]) (λg=>[zA3.obj (g.2) b0 y16]) (λj g=>j g.1) ?_ ?_
    ·rintro ⟨y21,F20⟩ w22 D22 Y
     try dsimp only at Y
     refine gg 1 rfl ?_;refine Rn.drawT 21 rfl D22 (by kernel_rfl) ?_;intro w23 D23;refine RT.vv 0 rfl (V.mv rfl) ?_;refine RT.vv 1 rfl (V.nil rfl) ?_;refine RT.vv 2 rfl (V.fa U172 rfl O22 rfl rfl) ?_;obtain ⟨_,⟨A24_0,c24_0,rfl⟩,D24⟩:=D23.unf 0 rfl;replace D24:=D24.nq;refine RT.vv 3 rfl (V.ldB V22 rfl (D24.get 0 rfl) rfl) ?_;refine RT.vv 4 rfl (V.mv rfl) ?_;refine RT.vv 5 rfl (V.nil rfl) ?_;refine RT.vv 6 rfl (V.fa U172 rfl O22 rfl rfl) ?_;refine RT.vv 7 rfl (V.ldB V22 rfl (D24.get 0 rfl) rfl) ?_;refine RT.vv 8 rfl (V.lenV U22 rfl) ?_;refine RT.vv 9 rfl (V.subW rfl rfl) ?_;obtain ⟨z26,e26,Y⟩:=zA7 Y;obtain ⟨kk26,ke26,kz26,kl26⟩:=zJb e26;obtain ⟨g26,vs26,hA26,hR26,hrel26⟩:=D24.ownAt 1 rfl kz26;subst hA26;obtain ⟨rfl,_⟩:=hrel26;refine RT.vv 10 rfl (V.ixE kk26 U22 O5 rfl rfl ke26 kl26) ?_;refine RT.vv 11 rfl (V.ldR0 V5 rfl hR26 rfl) ?_;refine RT.vv 12 rfl (V.mv rfl) ?_;refine RT.vv 13 rfl (V.mv rfl) ?_;refine RT.vv 14 rfl (V.mv rfl) ?_;refine RT.vv 15 rfl (V.subW rfl rfl) ?_;refine RT.vv 16 rfl (V.cv64 U3 U137 rfl) ?_;refine RT.vv 17 rfl (V.shl64 (a:=y21) (m:=(zAf (W64 (p18-(min y10 p18)))).toNat) rfl rfl) ?_;refine RT.vv 18 rfl (V.cv8 U35 U5 rfl) ?_;refine RT.vv 19 rfl (V.or8 (a:=z26) (b:=toU8 ((shl64 y21 ((zAf (W64 (p18-(min y10 p18)))).toNat)).toNat:Int)) rfl rfl) ?_;obtain ⟨z27,e27,Y⟩:=zA7 Y;obtain ⟨kk27,ke27,kz27,kl27⟩:=zJb e27;obtain ⟨vs27,hR27,hrel27⟩:=D24.ownAtL 1 rfl kz27;obtain ⟨rfl,_⟩:=hrel27;refine RT.vv 20 rfl (V.ixE kk27 U22 O5 rfl rfl ke27 kl27) ?_;refine RT.tail ?_;refine RH.stI 21 (by kernel_rfl) D24 1 rfl ke27 kl27 rfl rfl O5 rfl rfl rfl (vs:=[u8v (z26|||(toU8 ((shl64 y21 ((zAf (W64 (p18-(min y10 p18)))).toNat)).toNat:Int)))]) rfl (⟨rfl,trivial⟩) ?_;intro w28 D28;refine ⟨trivial,?_⟩;refine RH.dn ?_;refine gg 5 rfl (Rn.q rfl (V.ldB V3 rfl (D28.get 0 rfl) rfl) (gg 4 rfl (Rn.sq rfl O3 rfl rfl (D28.get 0 rfl) ?_)));intro w29 m29 x29;have D30:=(D28.st 0 rfl x29 m29).nf [zAi _ _ [_,_],_] rfl;refine gg 8 rfl ?_;have D31:=(D30.reBox 0 rfl (congrArg (λ(n0:Nat)=>([.slice (some ⟨g26,0,none⟩) n0 c24_0,iv (W64 (y16.n+(min y10 p18)))]:List Value)) (show (y16.b).length=((zLd y16.b (W64 ((y16.b.length:Int)-1)) (z26|||(toU8 ((shl64 y21 ((zAf (W64 (p18-(min y10 p18)))).toNat)).toNat:Int))))).length from ((zEi _ _ _)).symm.trans (rfl)))).nf [zAi _ _ [_,_],_] rfl;have D33:=D31.cu [] [0,1];obtain ⟨F32,D32⟩:=D33.fold (zA3.sh b0 (⟨(zLd y16.b (W64 ((y16.b.length:Int)-1)) (z26|||(toU8 ((shl64 y21 ((zAf (W64 (p18-(min y10 p18)))).toNat)).toNat:Int)))),W64 (y16.n+(min y10 p18))⟩:zA3)) ⟨(some ⟨g26,0,none⟩),c24_0,rfl⟩;exact N12 ((W64 (y10-(min y10 p18))),(⟨(zLd y16.b (W64 ((y16.b.length:Int)-1)) (z26|||(toU8 ((shl64 y21 ((zAf (W64 (p18-(min y10 p18)))).toNat)).toNat:Int)))),W64 (y16.n+(min y10 p18))⟩:zA3),F32) _ _ sA (D32.pk [0]) Y
    intro j4 Y K4;refine bD Y 3 1 (λh34 Y=>?_) (λh34 Y=>?_)
    ·refine Rn.q rfl (V.cv64 U3 U137 rfl) (Rn.q rfl (V.shl64 (a:=(1:UInt64)) (m:=(zAf (min y10 p18)).toNat) rfl rfl) (Rn.q rfl (V.ari64 (a:=shl64 (1:UInt64) ((zAf (min y10 p18)).toNat)) (b:=(1:UInt64)) rfl rfl _ rfl (zI1 _ _)) (Rn.q rfl (V.o64 rfl rfl (shr64 x1 ((zAf (W64 (y10-(min y10 p18)))).toNat)) ((shl64 (1:UInt64) ((zAf (min y10 p18)).toNat))-(1:UInt64)) rfl rfl (zSl _ _ _)) (gg 2 rfl ?_))));exact K4 (((shr64 x1 ((zAf (W64 (y10-(min y10 p18)))).toNat))&&&((shl64 (1:UInt64) ((zAf (min y10 p18)).toNat))-(1:UInt64))),F16) _ _ sA (D19.pk [0]) Y
    exact K4 ((shr64 x1 ((zAf (W64 (y10-(min y10 p18)))).toNat)),F16) _ _ sA (D19.pk [0]) Y
   intro j3 Y K3;refine bD Y 5 1 (λh35 Y=>?_) (λh35 Y=>?_)
   ·obtain ⟨_,⟨A36_0,c36_0,rfl⟩,D36⟩:=D15.unf 0 rfl;replace D36:=D36.nq;refine Rn.q rfl (V.ldB V22 rfl (D36.get 0 rfl) rfl) ?_;obtain ⟨z38,e38,Y⟩:=zA7 Y;refine Rn.pushH (z:=(0:UInt8)) (vs:=[u8v (0:UInt8)]) D36 1 rfl e38 rfl rfl rfl rfl U22 el5 rfl rfl rfl rfl (λ_=>rfl) (⟨rfl,trivial⟩) ?_;intro A38 c38 w38 u38 D38;refine gg 2 rfl (Rn.sq rfl O22 rfl rfl (D38.get 0 rfl) ?_);intro w40 m40 x40;have D41:=(D38.st 0 rfl x40 m40).nf [zAi _ _ [_,_],_] rfl;refine gg 1 rfl ?_;have D43:=D41.cu [] [0,1];obtain ⟨F42,D42⟩:=D43.fold (zA3.sh b0 (⟨z38,y11.n⟩:zA3)) ⟨A38,c38,rfl⟩;exact K3 ((⟨z38,y11.n⟩:zA3),F42) _ _ sA (D42.pk [0]) Y
   exact K3 (y11,F11) _ _ sA (D15.pk [0]) Y
  exact K2 (y11,F11) _ _ (sb trivial) (D12.pk [0]) Y
 intro j1 Y K1;refine zKs Y (Rn.partD (t:=16) rfl) (λh44 Y=>?_) (λh44 Y=>?_)
 ·refine gg 10 rfl ?_;exact K1 (true,F0) _ _ sA (D0.pk [0]) Y
 refine gg 3 rfl ?_;refine Rn.jR D0 Y (G:=Bool×(Nat→Prop)) [16] (λg=>[(0,pt b0 0),(1,zAn x1),(2,iv x2),(16,.bool false),(25,.bool ((g.1)))]) (λg=>[zA3.obj (g.2) b0 x0]) (λj g=>j g.1) ?_ ?_
 ·rintro ⟨y46,F45⟩ w47 D47 Y
  try dsimp only at Y
  refine gg 1 rfl ?_;exact K1 (y46,F45) _ _ sA (D47.pk [0]) Y
 intro j5 Y K5;refine zKs Y (Rn.partD (t:=19) rfl) (λh48 Y=>?_) (λh48 Y=>?_)
 ·refine gg 2 rfl (Rn.q rfl (V.cv64 U3 U137 rfl) (Rn.q rfl (V.shr64 (a:=x1) (m:=(zAf x2).toNat) rfl rfl) (Rn.q rfl (V.neq rfl rfl) (gg 1 rfl ?_))));exact K5 ((decide (((shr64 x1 ((zAf x2).toNat)).toNat:Int)≠0)),F0) _ _ sA (D0.pk [0]) Y
 refine gg 6 rfl ?_;exact K5 (false,F0) _ _ sA (D0.pk [0]) Y
theorem m_vary_Put_sim {x0:zA3} {x1:UInt64} {r:zA3} (Y:zIa x0 x1=some r) (hL:zKt Z0 w [zA3.obj F0 b0 x0]) :
 Calls prog 122 #[pt b0 0,zAn x1] w λx w'=>∃ F_p0,x=.returned (.tuple #[])∧Hp Z0 (LS [zA3.obj F0 b0 x0]) w w' [zA3.obj F_p0 b0 r]:=by
 have D0:=hL.start;refine eg func122 3 ?_;obtain ⟨p2,e2,Y⟩:=zA7 Y
 refine Rn.c0 (cK func179) (zNy (Z0:=All) e2  :) D0 λw2 _ D3=>?_
 refine gg 6 rfl (Rn.q rfl (V.cv64 U3 U35 rfl) ?_);obtain ⟨p4,e4,Y⟩:=zA7 Y;have D5:=D3.cu [] [0]
 refine Rn.a1 (cK func176) (m_bitio_Writer_Put_sim e4 D5.lend :) D5 λF4_p0 w4 D7=>?_
 refine gg 4 rfl ?_;obtain ⟨p8,e8,Y⟩:=zA7 Y
 refine Rn.c0 (cK func180) (zKw (Z0:=All) e8  :) D7 λw8 _ D9=>?_
 refine gg 1 rfl ?_;obtain ⟨z10,e10,Y⟩:=zA7 Y;refine Rn.q rfl (V.arE1 zcg V3 rfl rfl (zQx e10 rfl) (zQr (λx:Int=>(.int .i64 x:Value)) e10)) ?_;obtain ⟨p11,e11,Y⟩:=zA7 Y;have D12:=D9.cu [] [0]
 refine Rn.a1 (cK func176) (m_bitio_Writer_Put_sim e11 D12.lend :) D12 λF11_p0 w11 D14=>?_
 refine gg 1 rfl ?_;refine Rn.end0 func122 rfl ?_;obtain rfl:=zF3 Y;exact ⟨F11_p0,rfl,D14.pk [0]⟩
theorem m_vary_PutInt_sim {x0:zA3} {x1:Int} {r:zA3} (Y:zF0 x0 x1=some r) (hL:zKt Z0 w [zA3.obj F0 b0 x0]) :
 Calls prog 174 #[pt b0 0,iv x1] w λx w'=>∃ F_p0,x=.returned (.tuple #[])∧Hp Z0 (LS [zA3.obj F0 b0 x0]) w w' [zA3.obj F_p0 b0 r]:=by
 have D0:=hL.start;refine eg func174 3 ?_;obtain ⟨p2,e2,Y⟩:=zA7 Y
 refine Rn.c0 (cK func215) (zSu (Z0:=All) e2  :) D0 λw2 _ D3=>?_
 obtain ⟨p4,e4,Y⟩:=zA7 Y;have D5:=D3.cu [] [0]
 refine Rn.a1 (cK func122) (m_vary_Put_sim e4 D5.lend :) D5 λF4_p0 w4 D7=>?_
 refine gg 1 rfl ?_;refine Rn.end0 func174 rfl ?_;obtain rfl:=zF3 Y;exact ⟨F4_p0,rfl,D7.pk [0]⟩
theorem zK  {r:zP0} (Y:zGr  = some r)  :
 Calls prog 177 #[] w λx w'=>x=.returned (.agg [iv r.a0,iv r.a1,iv r.a2,iv r.a3,iv r.a4].toArray)∧Hp Z0 No w w' []:=by
 have D0:=Hp.nil Z0 No w;have hc0:=Calm.nil;refine eg func177 2 ?_
 refine Rn.al D0 Tryz.zeroValue232 λb1 w1 D3=>?_
 replace D3:=D3.nf [zAi _ _ [_,_,_,_,_]] rfl;refine gg 3 rfl (Rn.q rfl (V.bldA (cs:=[_,_,_,_,_]) _ zch (zQj 5 1) rfl rfl) (Rn.sq rfl O232 rfl rfl (D3.get 0 rfl) ?_));intro w4 m4 x4;have D5:=(D3.st 0 rfl x4 m4).nf [zAi _ _ [_,_,_,_,_]] rfl;refine gg 1 rfl ?_;refine Rn.retG1 func177 rfl (rvC rfl V232 O232 (D5.get 0 rfl) rfl) ?_;obtain rfl:=zF3 Y;exact ⟨rfl,D5.pk []⟩
theorem zS2 {x0:Int} {x1:Int} {r:Bool} (Y:zLk x0 x1=some r)  :
 Calls prog 216 #[iv x0,iv x1] w λx w'=>x=.returned (.bool (r))∧Hp Z0 No w w' []:=by
 have D0:=Hp.nil Z0 No w;have hc0:=Calm.nil;refine eg func216 15 ?_;refine bD Y 6 5 (λh1 Y=>?_) (λh1 Y=>?_)
 ·cases Y
  exact Rn.R1 func216 ⟨rfl,D0.pk []⟩
 refine bD Y 4 7 (λh2 Y=>?_) (λh2 Y=>?_)
 ·cases Y
  exact Rn.R1 func216 ⟨rfl,D0.pk []⟩
 refine Rn.q rfl (V.cv64 U3 U137 rfl) (Rn.q rfl (V.shlZ (m:=(zAf (W64 (x1-1))).toNat) rfl rfl) (gg 2 rfl ?_));refine Rn.jR D0 Y (G:=Bool) [14] (λg=>[(25,.bool (g))]) (λg=>[]) (λj g=>j g) ?_ ?_
 ·rintro y3 w4 D4 Y
  try dsimp only at Y
  refine gg 2 rfl ?_
  cases Y
  exact Rn.R1 func216 ⟨rfl,D4.pk []⟩
 intro j1 Y K1;refine zKs Y (Rn.partD (t:=18) rfl) (λh5 Y=>?_) (λh5 Y=>?_)
 ·refine gg 3 rfl (Rn.q rfl (V.cv64 U3 U137 rfl) (Rn.q rfl (V.shlZ (m:=(zAf (W64 (x1-1))).toNat) rfl rfl) (gg 2 rfl ?_)));exact K1 (decide (x0<shlZ 1 ((zAf (W64 (x1-1))).toNat))) _ _ sA (D0.pk []) Y
 refine gg 7 rfl ?_;exact K1 false _ _ sA (D0.pk []) Y
theorem zPb {x0:Int} {r:Int} (Y:zN2 x0=some r)  :
 Calls prog 175 #[iv x0] w λx w'=>x=.returned (iv r)∧Hp Z0 No w w' []:=by
 have D0:=Hp.nil Z0 No w;have hc0:=Calm.nil;refine eg func175 7 ?_;obtain ⟨p1,e1,Y⟩:=zA7 Y
 refine Rn.c0 (cK func177) (zK (Z0:=All) e1  :) D0 λw1 _ D2=>?_
 refine gg 2 rfl ?_;refine Rn.jG D0 Y (G:=Unit) (λg=>[]) (λg=>[]) (λj g=>j ()) ?_ ?_
 ·rintro _ w3 D3 Y
  try dsimp only at Y
  refine gg 4 rfl ?_
  cases Y
  exact Rn.R1 func175 ⟨rfl,D3.pk []⟩
 intro j1 Y K1;refine gg 1 rfl ?_;refine Rn.loopF (G:=Int) (λg=>[(0,iv x0),(5,.agg [iv p1.a0,iv p1.a1,iv p1.a2,iv p1.a3,iv p1.a4].toArray),(6,iv g)]) (λg w'=>Hp Z0 No w w' []) (λn g=>zGs x0 p1 j1 n g) fuel 0 sA (D2.pk []) Y (λ_=>rfl) ?_;clear Y;rintro m5 y4 w5 D5 Y N5;replace Y:zGs x0 p1 j1 (m5+1) y4=some r:=Y;rw [zGs] at Y;refine gg 5 rfl ?_;refine bD Y 6 1 (λh6 Y=>?_) (λh6 Y=>?_)
 ·obtain ⟨z7,e7,Y⟩:=zA7 Y;refine Rn.q rfl (V.arE1 zch V3 rfl rfl (zQx e7 rfl) (zQr (λx:Int=>(.int .i64 x:Value)) e7)) (gg 7 rfl ?_);obtain ⟨p8,e8,Y⟩:=zA7 Y
  refine Rn.c0 (cK func216) (zS2 (Z0:=All) e8  :) D5 λw8 _ D9=>?_
  refine gg 1 rfl ?_;refine bS Y 5 6 (λh10 Y=>?_) (λh10 Y=>?_)
  ·cases Y
   exact Rn.R1 func175 ⟨rfl,D9.pk []⟩
  exact N5 (W64 (y4+1)) _ _ sA (D9.pk []) Y
 exact K1 () _ _ (sb trivial) (D5.pk []) Y
theorem m_vary_Row_follow_sim {x0:zA9} {x1:UInt64} {r:zA9} (Y:zEy x0 x1=some r) (hL:zKt Z0 w [zAi b0 186 [iv x0.n,zAn x0.last,zAn x0.step]]) :
 Calls prog 178 #[pt b0 0,zAn x1] w λx w'=>x=.returned (.tuple #[])∧Hp Z0 (LS [zAi b0 186 [iv x0.n,zAn x0.last,zAn x0.step]]) w w' [zAi b0 186 [iv r.n,zAn r.last,zAn r.step]]:=by
 have D0:=hL.start;refine eg func178 6 ?_;refine Rn.q rfl (V.ldB V3 rfl (D0.get 0 rfl) rfl) (gg 2 rfl ?_);refine Rn.jG D0 Y (G:=zA9) (λg=>[(0,pt b0 0),(1,zAn x1)]) (λg=>[zAi b0 186 [iv g.n,zAn g.last,zAn g.step]]) (λj g=>j g) ?_ ?_
 ·rintro y2 w3 D3 Y
  try dsimp only at Y
  refine gg 6 rfl (Rn.sq rfl O35 rfl rfl (D3.get 0 rfl) ?_);intro w4 m4 x4;have D5:=(D3.st 0 rfl x4 m4).nf [zAi _ _ [_,_,_]] rfl;refine gg 5 rfl (Rn.q rfl (V.ldB V3 rfl (D5.get 0 rfl) rfl) (gg 3 rfl (Rn.sq rfl O3 rfl rfl (D5.get 0 rfl) ?_)));intro w6 m6 x6;have D7:=(D5.st 0 rfl x6 m6).nf [zAi _ _ [_,_,_]] rfl;refine gg 1 rfl ?_;refine Rn.end0 func178 rfl ?_;obtain rfl:=zF3 Y;exact ⟨rfl,D7.pk [0]⟩
 intro j1 Y K1;refine bD Y 6 1 (λh8 Y=>?_) (λh8 Y=>?_)
 ·refine Rn.q rfl (V.ldB V35 rfl (D0.get 0 rfl) rfl) (Rn.q rfl (V.ari64 (a:=x1) (b:=x0.last) rfl rfl _ rfl (zI1 _ _)) (gg 2 rfl (Rn.sq rfl O35 rfl rfl (D0.get 0 rfl) ?_)));intro w9 m9 x9;have D10:=(D0.st 0 rfl x9 m9).nf [zAi _ _ [_,_,_]] rfl;refine gg 1 rfl ?_;exact K1 (⟨x0.n,x0.last,x1-x0.last⟩:zA9) _ _ sA (D10.pk [0]) Y
 exact K1 x0 _ _ sA (D0.pk [0]) Y
theorem m_vary_Row_Put_sim {x0:zA9} {x1:zA3} {x2:Int} {r:(zA3×zA9)} (Y:zG0 x0 x1 x2=some r) (hL:zKt Z0 w [zAi b0 186 [iv x0.n,zAn x0.last,zAn x0.step],zA3.obj F1 b1 x1]) :
 Calls prog 121 #[pt b0 0,pt b1 0,iv x2] w λx w'=>∃ F_p1,x=.returned (.tuple #[])∧Hp Z0 (LS [zAi b0 186 [iv x0.n,zAn x0.last,zAn x0.step],zA3.obj F1 b1 x1]) w w' [zA3.obj F_p1 b1 r.1,zAi b0 186 [iv r.2.n,zAn r.2.last,zAn r.2.step]]:=by
 have D0:=hL.start;refine eg func121 6 ?_;refine Rn.q rfl (V.ldB V3 rfl (D0.get 0 rfl) rfl) (gg 1 rfl ?_);refine Rn.jG D0 Y (G:=zA3×(Nat→Prop)) (λg=>[(0,pt b0 0),(2,iv x2)]) (λg=>[zAi b0 186 [iv x0.n,zAn x0.last,zAn x0.step],zA3.obj (g.2) b1 (g.1)]) (λj g=>j g.1) ?_ ?_
 ·rintro ⟨y3,F3⟩ w4 D4 Y
  try dsimp only at Y
  refine gg 3 rfl (Rn.q rfl (V.cv64 U3 U35 rfl) ?_);obtain ⟨p5,e5,Y⟩:=zA7 Y;have D6:=D4.cu [1] [0];refine Rn.cq (cK func178) (m_vary_Row_follow_sim e5 D6.lend :) ?_;rintro _ w5 ⟨rfl,Q5⟩;refine ⟨_,rfl,?_⟩;have D8:=D6.callAZ Q5;refine gg 1 rfl ?_;refine Rn.end0 func121 rfl ?_;obtain rfl:=zF3 Y;exact ⟨F3,rfl,D8.pk [0,1]⟩
 intro j1 Y K1;refine gg 6 rfl ?_;refine bD Y 3 5 (λh9 Y=>?_) (λh9 Y=>?_)
 ·obtain ⟨p10,e10,Y⟩:=zA7 Y;have D11:=D0.cu [0] [1]
  refine Rn.a1 (cK func174) (m_vary_PutInt_sim e10 D11.lend :) D11 λF10_p0 w10 D13=>?_
  refine gg 2 rfl ?_;exact K1 (p10,F10_p0) _ _ sA (D13.pk [0,1]) Y
 refine bD Y 3 1 (λh14 Y=>?_) (λh14 Y=>?_)
 ·refine Rn.q rfl (V.cv64 U3 U35 rfl) (gg 3 rfl (Rn.q rfl (V.ldB V35 rfl (D0.get 0 rfl) rfl) (Rn.q rfl (V.ari64 (a:=zAf x2) (b:=x0.last) rfl rfl _ rfl (zI1 _ _)) (Rn.q rfl (V.cvW U35 U3 rfl) ?_))));obtain ⟨p15,e15,Y⟩:=zA7 Y;have D16:=D0.cu [0] [1]
  refine Rn.a1 (cK func174) (m_vary_PutInt_sim e15 D16.lend :) D16 λF15_p0 w15 D18=>?_
  refine gg 2 rfl ?_;exact K1 (p15,F15_p0) _ _ sA (D18.pk [0,1]) Y
 refine Rn.drawP rfl D0 ?_;intro w19 D19;refine dq [0] ?_;refine RH.tp 1 rfl (V.cv64 U3 U35 rfl) ?_;refine dq [2,3,4] ?_;refine RH.tp 5 rfl (V.ldB V35 rfl (D19.get 0 rfl) rfl) ?_;refine RH.tp 6 rfl (V.ari64 (a:=zAf x2) (b:=x0.last) rfl rfl _ rfl (zI1 _ _)) ?_;refine dq [7,8,9] ?_;refine RH.tp 10 rfl (V.ldB V35 rfl (D19.get 0 rfl) rfl) ?_;refine RH.tp 11 rfl (V.ari64 (a:=(zAf x2)-x0.last) (b:=x0.step) rfl rfl _ rfl (zI1 _ _)) ?_;refine RH.tp 12 rfl (V.cvW U35 U3 rfl) ?_;refine dq [13] ?_;refine RH.dn ?_;refine gg 3 rfl ?_;obtain ⟨p20,e20,Y⟩:=zA7 Y
 refine Rn.c0 (cK func175) (zPb (Z0:=All) e20  :) D19 λw20 _ D21=>?_
 refine gg 8 rfl ?_;refine Rn.jG D0 Y (G:=zA3×(Nat→Prop)) (λg=>[(0,pt b0 0),(1,pt b1 0),(2,iv x2),(6,iv (W64 ((((zAf x2)-x0.last)-x0.step).toNat:Int))),(7,iv p20)]) (λg=>[zAi b0 186 [iv x0.n,zAn x0.last,zAn x0.step],zA3.obj (g.2) b1 (g.1)]) (λj g=>j g.1) ?_ ?_
 ·rintro ⟨y22,F22⟩ w23 D23 Y
  try dsimp only at Y
  refine gg 6 rfl ?_;refine Rn.jG D0 Y (G:=zA3×(Nat→Prop)) (λg=>[(0,pt b0 0),(1,pt b1 0),(2,iv x2),(6,iv (W64 ((((zAf x2)-x0.last)-x0.step).toNat:Int))),(7,iv p20)]) (λg=>[zAi b0 186 [iv x0.n,zAn x0.last,zAn x0.step],zA3.obj (g.2) b1 (g.1)]) (λj g=>j g.1) ?_ ?_
  ·rintro ⟨y24,F24⟩ w25 D25 Y
   try dsimp only at Y
   refine gg 2 rfl ?_;obtain ⟨p26,e26,Y⟩:=zA7 Y
   refine Rn.c0 (cK func177) (zK (Z0:=All) e26  :) D25 λw26 _ D27=>?_
   refine gg 1 rfl ?_;obtain ⟨z28,e28,Y⟩:=zA7 Y;refine Rn.q rfl (V.arE1 zch V3 rfl rfl (zQx e28 rfl) (zQr (λx:Int=>(.int .i64 x:Value)) e28)) (gg 5 rfl (Rn.q rfl (V.cv64 U3 U35 rfl) (gg 2 rfl (Rn.q rfl (V.cv64 U3 U137 rfl) (Rn.q rfl (V.shl64 (a:=zAf (W64 ((((zAf x2)-x0.last)-x0.step).toNat:Int))) (m:=(zAf (W64 (64-z28))).toNat) rfl rfl) (gg 2 rfl (Rn.q rfl (V.cv64 U3 U137 rfl) (Rn.q rfl (V.shr64 (a:=shl64 (zAf (W64 ((((zAf x2)-x0.last)-x0.step).toNat:Int))) ((zAf (W64 (64-z28))).toNat)) (m:=(zAf (W64 (64-z28))).toNat) rfl rfl) (gg 1 rfl ?_)))))))));obtain ⟨p29,e29,Y⟩:=zA7 Y;have D30:=D27.cu [0] [1]
   refine Rn.a1 (cK func176) (m_bitio_Writer_Put_sim e29 D30.lend :) D30 λF29_p0 w29 D32=>?_
   refine gg 2 rfl ?_;exact K1 (p29.2,F29_p0) _ _ sA (D32.pk [0,1]) Y
  intro j3 Y K3;refine bD Y 2 1 (λh33 Y=>?_) (λh33 Y=>?_)
  ·obtain ⟨p34,e34,Y⟩:=zA7 Y;have D35:=D23.cu [0] [1]
   refine Rn.a1 (cK func176) (m_bitio_Writer_Put_sim e34 D35.lend :) D35 λF34_p0 w34 D37=>?_
   refine gg 1 rfl ?_;exact K3 (p34.2,F34_p0) _ _ sA (D37.pk [0,1]) Y
  exact K3 (y22,F22) _ _ sA (D23.pk [0,1]) Y
 intro j2 Y K2;refine gg 1 rfl ?_;refine Rn.loopF (G:=Int×zA3×(Nat→Prop)) (λg=>[(0,pt b0 0),(1,pt b1 0),(2,iv x2),(6,iv (W64 ((((zAf x2)-x0.last)-x0.step).toNat:Int))),(7,iv p20),(28,iv p20),(29,iv (g.1))]) (λg w'=>Hp Z0 (LS [zAi b0 186 [iv x0.n,zAn x0.last,zAn x0.step],zA3.obj F1 b1 x1]) w w' [zAi b0 186 [iv x0.n,zAn x0.last,zAn x0.step],zA3.obj (g.2.2) b1 (g.2.1)]) (λn g=>zDw p20 j2 n g.1 g.2.1) fuel (0,x1,F1) sA (D21.pk [0,1]) Y (λ_=>rfl) ?_;clear Y;rintro m40 ⟨y38,y39,F39⟩ w40 D40 Y N40;replace Y:zDw p20 j2 (m40+1) y38 y39=some r:=Y;rw [zDw] at Y;refine gg 5 rfl ?_;refine bD Y 5 1 (λh41 Y=>?_) (λh41 Y=>?_)
 ·obtain ⟨p42,e42,Y⟩:=zA7 Y;have D43:=D40.cu [0] [1]
  refine Rn.a1 (cK func176) (m_bitio_Writer_Put_sim e42 D43.lend :) D43 λF42_p0 w42 D45=>?_
  refine gg 6 rfl ?_;exact N40 ((W64 (y38+1)),p42.2,F42_p0) _ _ sA (D45.pk [0,1]) Y
 exact K2 (y39,F39) _ _ sA (D40.pk [0,1]) Y
theorem zIg {x0:zA2} {r:zFn} (Y:zHl x0=some r) (h0:zA2.rep.rel Z0 w cs0 x0) :
 Calls prog 144 #[.agg cs0.toArray] w λx w'=>x=.returned (.agg [iv r.scale,iv r.posAt,iv r.posSize,iv r.negAt,iv r.negSize].toArray)∧Hp Z0 No w w' []:=by
 have D0:=Hp.nil Z0 No w;have hc0:=Calm.nil;obtain ⟨Ar1,cr1,Ar3,cr3,rfl,fs1,fs3⟩:=zA2.relE h0;obtain ⟨D5,hc0⟩:=D0.kn (r:=slR Ar1 cr1 zAq x0.Pos.Counts) hc0 fs1;obtain ⟨D6,hc0⟩:=D5.kn (r:=slR Ar3 cr3 zAq x0.Neg.Counts) hc0 fs3;refine eg func144 2 ?_;refine Rn.box rfl rfl rfl rfl rfl ?_;intro b7 w7 hb7 m7 e7;have D9:=(D6.addBox hb7 e7 m7).nf [_,_,zAi _ _ [_,_,_,_,_,_]] rfl
 refine Rn.al D9 Tryz.zeroValue206 λb10 w10 D12=>?_
 replace D12:=D12.nf [_,_,_,zAi _ _ [_,_,_,_,_]] rfl;refine gg 4 rfl (Rn.q rfl (V.ldB V3 rfl (D12.get 2 rfl) rfl) (gg 2 rfl (Rn.q rfl (V.ldB V3 rfl (D12.get 2 rfl) rfl) (gg 2 rfl (Rn.q rfl (V.ldB V36 rfl (D12.get 2 rfl) rfl) (Rn.q rfl (V.lenV U36 rfl) (gg 2 rfl (Rn.q rfl (V.ldB V3 rfl (D12.get 2 rfl) rfl) (gg 2 rfl (Rn.q rfl (V.ldB V36 rfl (D12.get 2 rfl) rfl) (Rn.q rfl (V.lenV U36 rfl) (Rn.q rfl (V.bldS (cs:=[_,_,_,_,_]) st206 rfl rfl) (Rn.sq rfl O206 rfl rfl (D12.get 3 rfl) ?_)))))))))))));intro w13 m13 x13;have D14:=(D12.st 3 rfl x13 m13).nf [_,_,_,zAi _ _ [_,_,_,_,_]] rfl;refine gg 1 rfl ?_;refine Rn.retG1 func144 rfl (rvC rfl V206 O206 (D14.get 3 rfl) rfl) ?_;obtain rfl:=zF3 Y;exact ⟨rfl,D14.pk []⟩
theorem zGx {x0:zA2} {r:(List UInt64)} (Y:zD5 x0=some r) (h0:zA2.rep.rel Z0 w cs0 x0) :
 Calls prog 139 #[.agg cs0.toArray] w λx w'=>∃ A_0_0 c_0_0,x=.returned (.slice A_0_0 (r).length c_0_0)∧Hp Z0 No w w' [zAy 35 A_0_0 c_0_0 zAq r]:=by
 have D0:=Hp.nil Z0 No w;have hc0:=Calm.nil;obtain ⟨Ar1,cr1,Ar3,cr3,rfl,fs1,fs3⟩:=zA2.relE h0;obtain ⟨D5,hc0⟩:=D0.kn (r:=slR Ar1 cr1 zAq x0.Pos.Counts) hc0 fs1;obtain ⟨D6,hc0⟩:=D5.kn (r:=slR Ar3 cr3 zAq x0.Neg.Counts) hc0 fs3;refine eg func139 2 ?_;refine Rn.box rfl rfl rfl rfl rfl ?_;intro b7 w7 hb7 m7 e7;have D9:=(D6.addBox hb7 e7 m7).nf [_,_,zAi _ _ [_,_,_,_,_,_]] rfl;refine gg 5 rfl (Rn.q rfl (V.ldB V35 rfl (D9.get 2 rfl) rfl) (Rn.bslS rfl rfl rfl U36 zVc rfl rfl rfl rfl (by first|exact szs rfl|(simp [Value.cells];done)) (by decide) ?_));intro b10 w10 hb10 m10 e10;have D11:=D9.addLit (rep:=zAq) (xs:=([x0.Zero]:List UInt64)) (vss:=[[zAn x0.Zero]]) hb10 e10 m10 rfl rfl rfl ((zCr (λ_ _=>⟨rfl,trivial⟩) zO4));refine gg 7 rfl (Rn.q rfl (V.ldB V36 rfl (D11.get 2 rfl) rfl) ?_);obtain ⟨z13,e13,Y⟩:=zA7 Y;refine Rn.appH D11 3 rfl e13 rfl rfl rfl U36 zVc rfl rfl rfl rfl (D11.src 0 rfl) ?_;intro A13 c13 w13 D13;refine gg 7 rfl (Rn.q rfl (V.ldB V36 rfl (D13.get 2 rfl) rfl) ?_);obtain ⟨z15,e15,Y⟩:=zA7 Y;refine Rn.appH D13 3 rfl e15 rfl rfl rfl U36 zVc rfl rfl rfl rfl (D13.src 1 rfl) ?_;intro A15 c15 w15 D15;refine gg 2 rfl ?_
 cases Y
 exact Rn.R1 func139 ⟨A15,c15,rfl,D15.pk [3]⟩
theorem m_histbits_Row_Put_sim {x0:zA4} {x1:zA3} {x2:zA2} {r:(Int×zA4×zA3)} (Y:zFk x0 x1 x2=some r) (hL:zKt Z0 w [zA4.obj F0 b0 x0,zA3.obj F1 b1 x1,zTs zA2.rep cs2 x2]) :
 Calls prog 123 #[pt b0 0,pt b1 0,.agg cs2.toArray] w λx w'=>∃ F_p0 F_p1,x=.returned (iv r.1)∧Hp Z0 (LS [zA4.obj F0 b0 x0,zA3.obj F1 b1 x1,zTs zA2.rep cs2 x2]) w w' [zA4.obj F_p0 b0 r.2.1,zA3.obj F_p1 b1 r.2.2]:=by
 have D0:=hL.start;have h2:=D0.get 2 rfl;obtain ⟨Ar3,cr3,Ar5,cr5,rfl,fs3,fs5⟩:=zA2.relE h2;have D8:=Hp.knowL [slR Ar3 cr3 zAq x2.Pos.Counts,slR Ar5 cr5 zAq x2.Neg.Counts] _ D0 (knC (λ_ h=>h) fs3 (knC (λ_ h=>h) fs5 kn0));refine eg func123 2 ?_;refine Rn.box rfl rfl rfl rfl rfl ?_;intro b9 w9 hb9 m9 e9;have D11:=(D8.addBox hb9 e9 m9).nf [_,_,_,_,_,zAi _ _ [_,_,_,_,_,_]] rfl;refine gg 5 rfl (Rn.q rfl (V.ldBA [_,_,_,_,_,_] V40 O40 rfl (D11.get 5 rfl) rfl rfl) ?_);obtain ⟨p12,e12,Y⟩:=zA7 Y
 refine Rn.c0 (cK func113) (zJ2 (Z0:=All) e12 (show zA2.rep.rel All _ _ _ from ⟨_,_,rfl,⟨rfl,trivial⟩,⟨_,_,rfl,⟨rfl,trivial⟩,⟨_,_,rfl,⟨_,_,rfl,⟨rfl,trivial⟩,⟨_,_,rfl,(zA5 (D11.get 3 rfl)).1,(zA5 (D11.get 3 rfl)).2.1,(zA5 (D11.get 3 rfl)).2.2⟩⟩,⟨_,_,rfl,⟨rfl,trivial⟩,⟨_,_,rfl,(zA5 (D11.get 4 rfl)).1,(zA5 (D11.get 4 rfl)).2.1,(zA5 (D11.get 4 rfl)).2.2⟩⟩⟩⟩⟩) :) D11 λw12 _ D13=>?_
 refine gg 7 rfl ?_;refine bD Y 5 3 (λh14 Y=>?_) (λh14 Y=>?_)
 ·cases Y
  exact Rn.R1 func123 ⟨F0,F1,rfl,D13.pk [0,1]⟩
 refine Rn.jG D0 Y (G:=Bool×(Nat→Prop)×(Nat→Prop)) (λg=>[(0,pt b0 0),(1,pt b1 0),(5,pt b9 0),(34,.bool ((g.1)))]) (λg=>[zA4.obj (g.2.1) b0 x0,zA3.obj (g.2.2) b1 x1,slR Ar3 cr3 zAq x2.Pos.Counts,slR Ar5 cr5 zAq x2.Neg.Counts,zAi b9 40 [iv x2.Scale,zAn x2.Zero,iv x2.Pos.Offset,.slice Ar3 (x2.Pos.Counts).length cr3,iv x2.Neg.Offset,.slice Ar5 (x2.Neg.Counts).length cr5]]) (λj g=>j g.1) ?_ ?_
 ·rintro ⟨y17,F15,F16⟩ w18 D18 Y
  try dsimp only at Y
  refine Rn.jG D0 Y (G:=zA3×(Nat→Prop)×(Nat→Prop)) (λg=>[(0,pt b0 0),(5,pt b9 0)]) (λg=>[zA4.obj (g.2.1) b0 x0,slR Ar3 cr3 zAq x2.Pos.Counts,slR Ar5 cr5 zAq x2.Neg.Counts,zAi b9 40 [iv x2.Scale,zAn x2.Zero,iv x2.Pos.Offset,.slice Ar3 (x2.Pos.Counts).length cr3,iv x2.Neg.Offset,.slice Ar5 (x2.Neg.Counts).length cr5],zA3.obj (g.2.2) b1 (g.1)]) (λj g=>j g.1) ?_ ?_
  ·rintro ⟨y20,F19,F20⟩ w21 D21 Y
   try dsimp only at Y
   refine gg 5 rfl ?_;obtain ⟨_,⟨A22_0,c22_0,A22_1,c22_1,rfl⟩,D22⟩:=D21.unf 0 rfl;replace D22:=D22.nq;refine Rn.q rfl (V.ldB V3 rfl (D22.get 4 rfl) rfl) (gg 3 rfl (Rn.sq rfl O3 rfl rfl (D22.get 4 rfl) ?_));intro w25 m25 x25;have D26:=(D22.st 4 rfl x25 m25).nf [_,_,_,_,zAi _ _ [_,_,_,_,_,_,_],_,_] rfl;refine gg 4 rfl (Rn.q rfl (V.ldBA [_,_,_,_,_,_] V40 O40 rfl (D26.get 2 rfl) rfl rfl) ?_);obtain ⟨p27,e27,Y⟩:=zA7 Y;refine Rn.cq (cK func90) (zHn (Z0:=All) e27 (show zA2.rep.rel All _ _ _ from ⟨_,_,rfl,⟨rfl,trivial⟩,⟨_,_,rfl,⟨rfl,trivial⟩,⟨_,_,rfl,⟨_,_,rfl,⟨rfl,trivial⟩,⟨_,_,rfl,(zA5 (D26.get 0 rfl)).1,(zA5 (D26.get 0 rfl)).2.1,(zA5 (D26.get 0 rfl)).2.2⟩⟩,⟨_,_,rfl,⟨rfl,trivial⟩,⟨_,_,rfl,(zA5 (D26.get 1 rfl)).1,(zA5 (D26.get 1 rfl)).2.1,(zA5 (D26.get 1 rfl)).2.2⟩⟩⟩⟩⟩) :) ?_;rintro _ w27 ⟨A27_0_0,c27_0_0,A27_0_1,c27_0_1,rfl,Q27⟩;refine ⟨_,rfl,?_⟩;have D30:=D26.callF (flC (zAm zCz _ _ _ _) (flC (zAm zCz _ _ _ _) fl0)) Q27;replace D30:=D30.nq;refine gg 2 rfl (Rn.sq rfl O40 rfl rfl (D30.get 4 rfl) ?_);intro w31 m31 x31;have D32:=(D30.st 4 rfl x31 m31).nf [_,_,_,_,zAi _ _ [_,_,_,_,_,_,_],_,_,_,_] rfl;refine gg 5 rfl ?_;have D34:=D32.cu [0,1,2,3,5,6] [4,7,8];obtain ⟨F33,D33⟩:=D34.fold (zA4.sh b0 (⟨W64 (x0.n+1),p27⟩:zA4)) ⟨A27_0_0,c27_0_0,A27_0_1,c27_0_1,rfl⟩
   cases Y
   exact Rn.R1 func123 ⟨F33,F20,rfl,D33.pk [6,3]⟩
  intro j2 Y K2;refine bS Y 3 3 (λh35 Y=>?_) (λh35 Y=>?_)
  ·obtain ⟨p36,e36,Y⟩:=zA7 Y;have D37:=D18.cu [0,2,3,4] [1]
   refine Rn.a1 (cK func176) (m_bitio_Writer_Put_sim e36 D37.lend :) D37 λF36_p0 w36 D39=>?_
   refine gg 6 rfl ?_;obtain ⟨_,⟨A40_0,c40_0,A40_1,c40_1,rfl⟩,D40⟩:=D39.unf 0 rfl;replace D40:=D40.nq;refine Rn.q rfl (V.ldBA [_,_,_,_,_,_] V40 O40 rfl (D40.get 4 rfl) rfl rfl) ?_;obtain ⟨p43,e43,Y⟩:=zA7 Y
   refine Rn.c2 (cK func139) (zGx (Z0:=All) e43 (show zA2.rep.rel All _ _ _ from ⟨_,_,rfl,⟨rfl,trivial⟩,⟨_,_,rfl,⟨rfl,trivial⟩,⟨_,_,rfl,⟨_,_,rfl,⟨rfl,trivial⟩,⟨_,_,rfl,(zAw (D40.get 5 rfl)).1,(zAw (D40.get 5 rfl)).2.1,(zAw (D40.get 5 rfl)).2.2⟩⟩,⟨_,_,rfl,⟨rfl,trivial⟩,⟨_,_,rfl,(zAw (D40.get 6 rfl)).1,(zAw (D40.get 6 rfl)).2.1,(zAw (D40.get 6 rfl)).2.2⟩⟩⟩⟩⟩) :) λA43_0_0 c43_0_0 w43 Q43=>?_
   have D45:=D40.callF (flC (zAm zCz _ _ _ _) fl0) Q43;refine gg 4 rfl (Rn.q rfl (V.ldBA [_,_,_,_,_,_] V40 O40 rfl (D45.get 2 rfl) rfl rfl) ?_);obtain ⟨p46,e46,Y⟩:=zA7 Y
   refine Rn.c2 (cK func139) (zGx (Z0:=All) e46 (show zA2.rep.rel All _ _ _ from ⟨_,_,rfl,⟨rfl,trivial⟩,⟨_,_,rfl,⟨rfl,trivial⟩,⟨_,_,rfl,⟨_,_,rfl,⟨rfl,trivial⟩,⟨_,_,rfl,(zA5 (D45.get 0 rfl)).1,(zA5 (D45.get 0 rfl)).2.1,(zA5 (D45.get 0 rfl)).2.2⟩⟩,⟨_,_,rfl,⟨rfl,trivial⟩,⟨_,_,rfl,(zA5 (D45.get 1 rfl)).1,(zA5 (D45.get 1 rfl)).2.1,(zA5 (D45.get 1 rfl)).2.2⟩⟩⟩⟩⟩) :) λA46_0_0 c46_0_0 w46 Q46=>?_
   have D48:=D45.callF (flC (zAm zCz _ _ _ _) fl0) Q46;replace D48:=D48.nq;refine Rn.q rfl (V.lenV U36 rfl) (gg 2 rfl ?_);have D50:=D48.cu [0,1,2,3,7,8] [4,5,6];obtain ⟨F49,D49⟩:=D50.fold (zA4.sh b0 x0) ⟨A40_0,c40_0,A40_1,c40_1,rfl⟩;refine Rn.jG D0 Y (G:=zA3×(Nat→Prop)×(Nat→Prop)) (λg=>[(0,pt b0 0),(5,pt b9 0)]) (λg=>[slR Ar3 cr3 zAq x2.Pos.Counts,slR Ar5 cr5 zAq x2.Neg.Counts,zAi b9 40 [iv x2.Scale,zAn x2.Zero,iv x2.Pos.Offset,.slice Ar3 (x2.Pos.Counts).length cr3,iv x2.Neg.Offset,.slice Ar5 (x2.Neg.Counts).length cr5],zAy 35 A43_0_0 c43_0_0 zAq p43,zAy 35 A46_0_0 c46_0_0 zAq p46,zA4.obj (g.2.1) b0 x0,zA3.obj (g.2.2) b1 (g.1)]) (λj g=>j g.1) ?_ ?_
   ·rintro ⟨y52,F51,F52⟩ w53 D53 Y
    try dsimp only at Y
    exact K2 (y52,F51,F52) _ _ sA (D53.pk [5,0,1,2,6]) Y
   intro j3 Y K3;refine gg 1 rfl ?_;refine Rn.loopF (G:=Int×zA3×(Nat→Prop)×(Nat→Prop)) (λg=>[(0,pt b0 0),(1,pt b1 0),(5,pt b9 0),(8,.slice A43_0_0 (p43).length c43_0_0),(43,.slice A46_0_0 (p46).length c46_0_0),(44,iv (p46.length:Int)),(45,iv (g.1))]) (λg w'=>Hp Z0 (LS [zA4.obj F0 b0 x0,zA3.obj F1 b1 x1,zTs zA2.rep [iv x2.Scale,zAn x2.Zero,iv x2.Pos.Offset,.slice Ar3 (x2.Pos.Counts).length cr3,iv x2.Neg.Offset,.slice Ar5 (x2.Neg.Counts).length cr5] x2]) w w' [slR Ar3 cr3 zAq x2.Pos.Counts,slR Ar5 cr5 zAq x2.Neg.Counts,zAi b9 40 [iv x2.Scale,zAn x2.Zero,iv x2.Pos.Offset,.slice Ar3 (x2.Pos.Counts).length cr3,iv x2.Neg.Offset,.slice Ar5 (x2.Neg.Counts).length cr5],zAy 35 A43_0_0 c43_0_0 zAq p43,zAy 35 A46_0_0 c46_0_0 zAq p46,zA4.obj (g.2.2.1) b0 x0,zA3.obj (g.2.2.2) b1 (g.2.1)]) (λn g=>zCd p43 p46 j3 n g.1 g.2.1) fuel (0,p36.2,F49,F36_p0) sA (D49.pk [0,1,2,4,5,6,3]) Y (λ_=>rfl) ?_;clear Y;rintro m57 ⟨y55,y56,F54,F56⟩ w57 D57 Y N57;replace Y:zCd p43 p46 j3 (m57+1) y55 y56=some r:=Y;rw [zCd] at Y;refine gg 5 rfl ?_;refine bD Y 6 1 (λh58 Y=>?_) (λh58 Y=>?_)
   ·obtain ⟨z59,e59,Y⟩:=zA7 Y;obtain ⟨kk59,ke59,kz59,kl59⟩:=zJb e59;obtain ⟨g59,vs59,hA59,hR59,hrel59⟩:=D57.ownAt 4 rfl kz59;subst hA59;obtain ⟨rfl,_⟩:=hrel59;refine Rn.q rfl (V.ixE kk59 U36 O35 rfl rfl ke59 kl59) (Rn.q rfl (V.ldR0 V35 rfl hR59 rfl) (gg 8 rfl ?_));obtain ⟨z60,e60,Y⟩:=zA7 Y;obtain ⟨kk60,ke60,kz60,kl60⟩:=zJb e60;obtain ⟨g60,vs60,hA60,hR60,hrel60⟩:=D57.ownAt 3 rfl kz60;subst hA60;obtain ⟨rfl,_⟩:=hrel60;refine Rn.q rfl (V.ixE kk60 U36 O35 rfl rfl ke60 kl60) (Rn.q rfl (V.ldR0 V35 rfl hR60 rfl) (Rn.q rfl (V.ari64 (a:=z59) (b:=z60) rfl rfl _ rfl (zI1 _ _)) (Rn.q rfl (V.cvW U35 U3 rfl) ?_)));obtain ⟨p61,e61,Y⟩:=zA7 Y;have D62:=D57.cu [0,1,2,3,4,5] [6]
    refine Rn.a1 (cK func174) (m_vary_PutInt_sim e61 D62.lend :) D62 λF61_p0 w61 D64=>?_
    refine gg 6 rfl ?_;exact N57 ((W64 (y55+1)),p61,F54,F61_p0) _ _ sA (D64.pk [0,1,2,3,4,5,6]) Y
   exact K3 (y56,F54,F56) _ _ sA (D57.pk [0,1,2,3,4,5,6]) Y
  obtain ⟨p65,e65,Y⟩:=zA7 Y;have D66:=D18.cu [0,2,3,4] [1]
  refine Rn.a1 (cK func176) (m_bitio_Writer_Put_sim e65 D66.lend :) D66 λF65_p0 w65 D68=>?_
  refine gg 5 rfl (Rn.q rfl (V.ldB V3 rfl (D68.get 3 rfl) rfl) (gg 1 rfl (Rn.q rfl (V.cv64 U3 U35 rfl) ?_)));obtain ⟨p69,e69,Y⟩:=zA7 Y;have D70:=D68.cu [0,1,2,3] [4]
  refine Rn.a1 (cK func176) (m_bitio_Writer_Put_sim e69 D70.lend :) D70 λF69_p0 w69 D72=>?_
  refine gg 5 rfl (Rn.q rfl (V.ldBA [_,_] V38 O38 rfl (D72.get 3 rfl) rfl rfl) (gg 1 rfl (Rn.q rfl (V.ldBA [_,_] V38 O38 rfl (D72.get 3 rfl) rfl rfl) (Rn.bslS rfl rfl rfl U236 el38 rfl rfl rfl rfl (by first|exact szs rfl|(simp [Value.cells];done)) (by decide) ?_))));intro b73 w73 hb73 m73 e73;have D74:=D72.addLitZ (rep:=zAa.rep) (xs:=([x2.Pos,x2.Neg]:List zAa)) (vss:=[[iv x2.Pos.Offset,.slice Ar3 (x2.Pos.Counts).length cr3],[iv x2.Neg.Offset,.slice Ar5 (x2.Neg.Counts).length cr5]]) hb73 e73 m73 rfl rfl rfl ((zRu (show zAa.rep.rel _ _ _ _ from ⟨_,_,rfl,⟨rfl,trivial⟩,⟨_,_,rfl,(D72.get 1 rfl).1,(D72.get 1 rfl).2.1,(D72.get 1 rfl).2.2⟩⟩) (zRu (show zAa.rep.rel _ _ _ _ from ⟨_,_,rfl,⟨rfl,trivial⟩,⟨_,_,rfl,(D72.get 2 rfl).1,(D72.get 2 rfl).2.1,(D72.get 2 rfl).2.2⟩⟩) zgg)));refine Rn.q rfl (V.lenV U236 rfl) (gg 2 rfl ?_);refine Rn.jG D0 Y (G:=zA3×(Nat→Prop)×(Nat→Prop)) (λg=>[(0,pt b0 0),(1,pt b1 0),(5,pt b9 0)]) (λg=>[zA4.obj (g.2.1) b0 x0,slR Ar3 cr3 zAq x2.Pos.Counts,slR Ar5 cr5 zAq x2.Neg.Counts,zAi b9 40 [iv x2.Scale,zAn x2.Zero,iv x2.Pos.Offset,.slice Ar3 (x2.Pos.Counts).length cr3,iv x2.Neg.Offset,.slice Ar5 (x2.Neg.Counts).length cr5],zAy 38 (some ⟨b73,0,none⟩) 2 zAa.rep ([x2.Pos,x2.Neg]:List zAa),zA3.obj (g.2.2) b1 (g.1)]) (λj g=>j g.1) ?_ ?_
  ·rintro ⟨y77,F76,F77⟩ w78 D78 Y
   try dsimp only at Y
   refine gg 2 rfl (Rn.q rfl (V.ldBA [_,_,_,_,_,_] V40 O40 rfl (D78.get 3 rfl) rfl rfl) ?_);obtain ⟨p79,e79,Y⟩:=zA7 Y
   refine Rn.c2 (cK func139) (zGx (Z0:=All) e79 (show zA2.rep.rel All _ _ _ from ⟨_,_,rfl,⟨rfl,trivial⟩,⟨_,_,rfl,⟨rfl,trivial⟩,⟨_,_,rfl,⟨_,_,rfl,⟨rfl,trivial⟩,⟨_,_,rfl,(zA5 (D78.get 1 rfl)).1,(zA5 (D78.get 1 rfl)).2.1,(zA5 (D78.get 1 rfl)).2.2⟩⟩,⟨_,_,rfl,⟨rfl,trivial⟩,⟨_,_,rfl,(zA5 (D78.get 2 rfl)).1,(zA5 (D78.get 2 rfl)).2.1,(zA5 (D78.get 2 rfl)).2.2⟩⟩⟩⟩⟩) :) λA79_0_0 c79_0_0 w79 Q79=>?_
   have D81:=D78.callF (flC (zAm zCz _ _ _ _) fl0) Q79;refine Rn.q rfl (V.lenV U36 rfl) (gg 2 rfl ?_);refine Rn.jG D0 Y (G:=zA3×(Nat→Prop)×(Nat→Prop)) (λg=>[(0,pt b0 0),(5,pt b9 0)]) (λg=>[zA4.obj (g.2.1) b0 x0,slR Ar3 cr3 zAq x2.Pos.Counts,slR Ar5 cr5 zAq x2.Neg.Counts,zAi b9 40 [iv x2.Scale,zAn x2.Zero,iv x2.Pos.Offset,.slice Ar3 (x2.Pos.Counts).length cr3,iv x2.Neg.Offset,.slice Ar5 (x2.Neg.Counts).length cr5],zAy 38 (some ⟨b73,0,none⟩) 2 zAa.rep ([x2.Pos,x2.Neg]:List zAa),zAy 35 A79_0_0 c79_0_0 zAq p79,zA3.obj (g.2.2) b1 (g.1)]) (λj g=>j g.1) ?_ ?_
   ·rintro ⟨y83,F82,F83⟩ w84 D84 Y
    try dsimp only at Y
    exact K2 (y83,F82,F83) _ _ sA (D84.pk [0,1,2,3,6]) Y
   intro j5 Y K5;refine gg 1 rfl ?_;refine Rn.loopF (G:=Int×zA3×(Nat→Prop)×(Nat→Prop)) (λg=>[(0,pt b0 0),(1,pt b1 0),(5,pt b9 0),(94,.slice A79_0_0 (p79).length c79_0_0),(95,iv (p79.length:Int)),(96,iv (g.1))]) (λg w'=>Hp Z0 (LS [zA4.obj F0 b0 x0,zA3.obj F1 b1 x1,zTs zA2.rep [iv x2.Scale,zAn x2.Zero,iv x2.Pos.Offset,.slice Ar3 (x2.Pos.Counts).length cr3,iv x2.Neg.Offset,.slice Ar5 (x2.Neg.Counts).length cr5] x2]) w w' [zA4.obj (g.2.2.1) b0 x0,slR Ar3 cr3 zAq x2.Pos.Counts,slR Ar5 cr5 zAq x2.Neg.Counts,zAi b9 40 [iv x2.Scale,zAn x2.Zero,iv x2.Pos.Offset,.slice Ar3 (x2.Pos.Counts).length cr3,iv x2.Neg.Offset,.slice Ar5 (x2.Neg.Counts).length cr5],zAy 38 (some ⟨b73,0,none⟩) 2 zAa.rep ([x2.Pos,x2.Neg]:List zAa),zAy 35 A79_0_0 c79_0_0 zAq p79,zA3.obj (g.2.2.2) b1 (g.2.1)]) (λn g=>zCc p79 j5 n g.1 g.2.1) fuel (0,y77,F76,F77) sA (D81.pk [0,1,2,3,4,6,5]) Y (λ_=>rfl) ?_;clear Y;rintro m88 ⟨y86,y87,F85,F87⟩ w88 D88 Y N88;replace Y:zCc p79 j5 (m88+1) y86 y87=some r:=Y;rw [zCc] at Y;refine gg 5 rfl ?_;refine bD Y 5 1 (λh89 Y=>?_) (λh89 Y=>?_)
   ·obtain ⟨z90,e90,Y⟩:=zA7 Y;obtain ⟨kk90,ke90,kz90,kl90⟩:=zJb e90;obtain ⟨g90,vs90,hA90,hR90,hrel90⟩:=D88.ownAt 5 rfl kz90;subst hA90;obtain ⟨rfl,_⟩:=hrel90;refine Rn.q rfl (V.ixE kk90 U36 O35 rfl rfl ke90 kl90) (Rn.q rfl (V.ldR0 V35 rfl hR90 rfl) (gg 5 rfl ?_));obtain ⟨p91,e91,Y⟩:=zA7 Y;have D92:=D88.cu [0,1,2,3,4,5] [6]
    refine Rn.a1 (cK func122) (m_vary_Put_sim e91 D92.lend :) D92 λF91_p0 w91 D94=>?_
    refine gg 6 rfl ?_;exact N88 ((W64 (y86+1)),p91,F85,F91_p0) _ _ sA (D94.pk [0,1,2,3,4,5,6]) Y
   exact K5 (y87,F85,F87) _ _ sA (D88.pk [0,1,2,3,4,5,6]) Y
  intro j4 Y K4;refine gg 1 rfl ?_;refine Rn.loopF (G:=Int×zA3×(Nat→Prop)×(Nat→Prop)) (λg=>[(0,pt b0 0),(1,pt b1 0),(5,pt b9 0),(72,.slice (some ⟨b73,0,none⟩) (([x2.Pos,x2.Neg]:List zAa)).length 2),(73,iv (([x2.Pos,x2.Neg]:List zAa).length:Int)),(74,iv (g.1))]) (λg w'=>Hp Z0 (LS [zA4.obj F0 b0 x0,zA3.obj F1 b1 x1,zTs zA2.rep [iv x2.Scale,zAn x2.Zero,iv x2.Pos.Offset,.slice Ar3 (x2.Pos.Counts).length cr3,iv x2.Neg.Offset,.slice Ar5 (x2.Neg.Counts).length cr5] x2]) w w' [zA4.obj (g.2.2.1) b0 x0,slR Ar3 cr3 zAq x2.Pos.Counts,slR Ar5 cr5 zAq x2.Neg.Counts,zAi b9 40 [iv x2.Scale,zAn x2.Zero,iv x2.Pos.Offset,.slice Ar3 (x2.Pos.Counts).length cr3,iv x2.Neg.Offset,.slice Ar5 (x2.Neg.Counts).length cr5],zAy 38 (some ⟨b73,0,none⟩) 2 zAa.rep ([x2.Pos,x2.Neg]:List zAa),zA3.obj (g.2.2.2) b1 (g.2.1)]) (λn g=>zBo x2 j4 n g.1 g.2.1) fuel (0,p69.2,F15,F69_p0) sA (D74.pk [0,1,2,3,5,4]) Y (λ_=>rfl) ?_;clear Y;rintro m98 ⟨y96,y97,F95,F97⟩ w98 D98 Y N98;replace Y:zBo x2 j4 (m98+1) y96 y97=some r:=Y;rw [zBo] at Y;refine gg 5 rfl ?_;refine bD Y 2 1 (λh99 Y=>?_) (λh99 Y=>?_)
  ·refine Rn.jG D0 Y (G:=zA3×(Nat→Prop)×(Nat→Prop)) (λg=>[(0,pt b0 0),(1,pt b1 0),(5,pt b9 0),(72,.slice (some ⟨b73,0,none⟩) (([x2.Pos,x2.Neg]:List zAa)).length 2),(73,iv (([x2.Pos,x2.Neg]:List zAa).length:Int)),(74,iv y96)]) (λg=>[zA4.obj (g.2.1) b0 x0,slR Ar3 cr3 zAq x2.Pos.Counts,slR Ar5 cr5 zAq x2.Neg.Counts,zAi b9 40 [iv x2.Scale,zAn x2.Zero,iv x2.Pos.Offset,.slice Ar3 (x2.Pos.Counts).length cr3,iv x2.Neg.Offset,.slice Ar5 (x2.Neg.Counts).length cr5],zAy 38 (some ⟨b73,0,none⟩) 2 zAa.rep ([x2.Pos,x2.Neg]:List zAa),zA3.obj (g.2.2) b1 (g.1)]) (λj g=>j g.1) ?_ ?_
   ·rintro ⟨y101,F100,F101⟩ w102 D102 Y
    try dsimp only at Y
    refine gg 4 rfl ?_;exact N98 ((W64 (y96+1)),y101,F100,F101) _ _ sA (D102.pk [0,1,2,3,4,5]) Y
   intro j6 Y K6;refine gg 3 rfl ?_;obtain ⟨z103,e103,Y⟩:=zA7 Y;obtain ⟨kk103,ke103,kz103,kl103⟩:=zJb e103;obtain ⟨vs103,hR103,hrel103⟩:=D98.ownAtL 4 rfl kz103;obtain ⟨Ar104,cr104,rfl,fs104⟩:=zAa.relE hrel103;have D106:=Hp.knowL [slR Ar104 cr104 zAq z103.Counts] _ D98 (knC (λ_ h=>h) fs104 kn0);refine Rn.q rfl (V.ixE kk103 U236 O38 rfl rfl ke103 kl103) (Rn.q rfl (V.ldA (vs:=[_,_]) V38 O38 rfl (Rd.pre hR103 2) rfl) (Rn.als rfl rfl rfl Tryz.zeroValue38 rfl O38 rfl rfl rfl rfl (by first|exact zJx rfl|(simp [Value.oneCell'];done)) ?_));intro b107 w107 hb107 m107 e107;have D109:=(D106.addBox hb107 e107 m107).nf [_,_,_,_,_,_,_,zAi _ _ [_,_]] rfl;refine gg 5 rfl (Rn.q rfl (V.ldB V36 rfl (D109.get 7 rfl) rfl) (Rn.q rfl (V.lenV U36 rfl) (Rn.q rfl (V.cv64 U3 U35 rfl) ?_)));obtain ⟨p110,e110,Y⟩:=zA7 Y;have D111:=D109.cu [0,1,2,3,4,6,7] [5]
   refine Rn.a1 (cK func176) (m_bitio_Writer_Put_sim e110 D111.lend :) D111 λF110_p0 w110 D113=>?_
   refine gg 4 rfl (Rn.q rfl (V.ldB V36 rfl (D113.get 6 rfl) rfl) (Rn.q rfl (V.lenV U36 rfl) (gg 2 rfl ?_)));refine bD Y 3 2 (λh114 Y=>?_) (λh114 Y=>?_)
   ·refine Rn.q rfl (V.ldB V3 rfl (D113.get 6 rfl) rfl) ?_;obtain ⟨p115,e115,Y⟩:=zA7 Y;have D116:=D113.cu [0,1,2,3,4,5,6] [7]
    refine Rn.a1 (cK func174) (m_vary_PutInt_sim e115 D116.lend :) D116 λF115_p0 w115 D118=>?_
    refine gg 2 rfl ?_;exact K6 (p115,F95,F115_p0) _ _ sA (D118.pk [0,1,2,3,4,7]) Y
   exact K6 (p110.2,F95,F110_p0) _ _ sA (D113.pk [0,1,2,3,4,7]) Y
  exact K4 (y97,F95,F97) _ _ sA (D98.pk [0,1,2,3,4,5]) Y
 intro j1 Y K1;refine Rn.drawH rfl D13 ?_;intro w119 D119;refine dq [0,1,2] ?_;obtain ⟨_,⟨A120_0,c120_0,A120_1,c120_1,rfl⟩,D120⟩:=D119.unf 0 rfl;replace D120:=D120.nq;refine RH.ho 3 rfl (V.ldB V3 rfl (D120.get 5 rfl) rfl) ?_;refine dq [4,5] ?_;refine zKs Y (RH.partD (t:=25) rfl) (λh123 Y=>?_) (λh123 Y=>?_)
 ·refine RH.tk 6 rfl (λw' hDr=>V.ldBA [_,_,_,_,_,_] V40 O40 rfl ((D120.ext hDr).get 4 rfl) rfl rfl) ?_;refine dq [8,9,10] ?_;refine RH.tk 11 rfl (λw' hDr=>V.ldBA [_,_,_,_,_,_] V40 O40 rfl ((D120.ext hDr).get 5 rfl) rfl rfl) ?_;obtain ⟨p124,e124,Y⟩:=zA7 Y;refine RH.cq (cK func144) 7 (zIg (Z0:=All) e124 (show zA2.rep.rel All _ _ _ from ⟨_,_,rfl,⟨rfl,trivial⟩,⟨_,_,rfl,⟨rfl,trivial⟩,⟨_,_,rfl,⟨_,_,rfl,⟨rfl,trivial⟩,⟨_,_,rfl,(zA5 (D120.get 2 rfl)).1,(zA5 (D120.get 2 rfl)).2.1,(zA5 (D120.get 2 rfl)).2.2⟩⟩,⟨_,_,rfl,⟨rfl,trivial⟩,⟨_,_,rfl,(zA5 (D120.get 3 rfl)).1,(zA5 (D120.get 3 rfl)).2.1,(zA5 (D120.get 3 rfl)).2.2⟩⟩⟩⟩⟩) :) ?_;rintro _ w124 ⟨rfl,Q124⟩;refine ⟨_,rfl,((Ext.refl _).trans Q124.fr),?_⟩;have D125:=D120.call0 Q124;obtain ⟨p126,e126,Y⟩:=zA7 Y;refine RH.cq (cK func144) 12 (zIg (Z0:=All) e126 (show zA2.rep.rel All _ _ _ from ⟨_,_,rfl,⟨rfl,trivial⟩,⟨_,_,rfl,⟨rfl,trivial⟩,⟨_,_,rfl,⟨_,_,rfl,⟨rfl,trivial⟩,⟨_,_,rfl,(zAw (D125.get 6 rfl)).1,(zAw (D125.get 6 rfl)).2.1,(zAw (D125.get 6 rfl)).2.2⟩⟩,⟨_,_,rfl,⟨rfl,trivial⟩,⟨_,_,rfl,(zAw (D125.get 7 rfl)).1,(zAw (D125.get 7 rfl)).2.1,(zAw (D125.get 7 rfl)).2.2⟩⟩⟩⟩⟩) :) ?_;rintro _ w126 ⟨rfl,Q126⟩;refine ⟨_,rfl,(((Ext.refl _).trans Q124.fr).trans Q126.fr),?_⟩;have D127:=D125.call0 Q126;refine RH.ho 13 rfl (V.eqlT Tryz.eqGuardType206 rfl rfl (zh3 _ _)) ?_;refine dq [14] ?_;refine RH.dn ?_;have D129:=D127.cu [0,1,2,3,4] [5,6,7];obtain ⟨F128,D128⟩:=D129.fold (zA4.sh b0 x0) ⟨A120_0,c120_0,A120_1,c120_1,rfl⟩;exact K1 ((decide (p124=p126)),F128,F1) _ _ sA (D128.pk [5,0,2,3,4]) Y
 refine dq [6,7,8,9,10,11,12,13,14] ?_;refine RH.dn ?_;have D131:=D120.cu [0,1,2,3,4] [5,6,7];obtain ⟨F130,D130⟩:=D131.fold (zA4.sh b0 x0) ⟨A120_0,c120_0,A120_1,c120_1,rfl⟩;exact K1 (false,F130,F1) _ _ sA (D130.pk [5,0,2,3,4]) Y
theorem zKj {x0:UInt64} {r:Int} (Y:zH8 x0=some r)  :
 Calls prog 191 #[zAn x0] w λx w'=>x=.returned (iv r)∧Hp Z0 No w w' []:=by
 have D0:=Hp.nil Z0 No w;have hc0:=Calm.nil;refine eg func191 8 ?_;refine Rn.q rfl (V.geq rfl rfl) (gg 1 rfl ?_);refine Rn.jG D0 Y (G:=UInt64×Int) (λg=>[(0,zAn (g.1)),(2,iv (g.2))]) (λg=>[]) (λj g=>j g.1 g.2) ?_ ?_
 ·rintro ⟨y1,y2⟩ w3 D3 Y
  try dsimp only at Y
  refine gg 4 rfl (Rn.q rfl (V.geq rfl rfl) (gg 1 rfl ?_));refine Rn.jG D0 Y (G:=UInt64×Int) (λg=>[(0,zAn (g.1)),(2,iv (g.2))]) (λg=>[]) (λj g=>j g.1 g.2) ?_ ?_
  ·rintro ⟨y4,y5⟩ w6 D6 Y
   try dsimp only at Y
   refine gg 4 rfl (Rn.q rfl (V.geq rfl rfl) (gg 1 rfl ?_));refine Rn.jG D0 Y (G:=UInt64×Int) (λg=>[(0,zAn (g.1)),(2,iv (g.2))]) (λg=>[]) (λj g=>j g.1 g.2) ?_ ?_
   ·rintro ⟨y7,y8⟩ w9 D9 Y
    try dsimp only at Y
    refine gg 4 rfl (Rn.q rfl (V.cv8 U35 U5 rfl) ?_);obtain ⟨z10,e10,Y⟩:=zA7 Y;refine Rn.q rfl (V.idxSZ U9 rfl rfl e10) (Rn.q rfl (V.cv8i (a:=z10) U5 U3 rfl) (gg 3 rfl ?_))
    cases Y
    exact Rn.R1 func191 ⟨rfl,D9.pk []⟩
   intro j3 Y K3;refine bD Y 3 1 (λh11 Y=>?_) (λh11 Y=>?_)
   ·refine Rn.q rfl (V.sh64 rfl rfl _ 8 rfl rfl (zSk _ _ _ 8 (by decide))) (gg 7 rfl ?_);exact K3 ((y4>>>UInt64.ofNat 8),(W64 (y5+8))) _ _ sA (D6.pk []) Y
   exact K3 (y4,y5) _ _ sA (D6.pk []) Y
  intro j2 Y K2;refine bD Y 3 1 (λh12 Y=>?_) (λh12 Y=>?_)
  ·refine Rn.q rfl (V.sh64 rfl rfl _ 16 rfl rfl (zSk _ _ _ 16 (by decide))) (gg 7 rfl ?_);exact K2 ((y1>>>UInt64.ofNat 16),(W64 (y2+16))) _ _ sA (D3.pk []) Y
  exact K2 (y1,y2) _ _ sA (D3.pk []) Y
 intro j1 Y K1;refine bD Y 3 1 (λh13 Y=>?_) (λh13 Y=>?_)
 ·refine Rn.q rfl (V.sh64 rfl rfl _ 32 rfl rfl (zSk _ _ _ 32 (by decide))) (gg 5 rfl ?_);exact K1 ((x0>>>UInt64.ofNat 32),32) _ _ sA (D0.pk []) Y
 exact K1 (x0,0) _ _ sA (D0.pk []) Y
theorem zHb {x0:UInt64} {r:Int} (Y:zDk x0=some r)  :
 Calls prog 218 #[zAn x0] w λx w'=>x=.returned (iv r)∧Hp Z0 No w w' []:=by
 have D0:=Hp.nil Z0 No w;have hc0:=Calm.nil;refine eg func218 7 ?_;obtain ⟨p1,e1,Y⟩:=zA7 Y
 refine Rn.c0 (cK func191) (zKj (Z0:=All) e1  :) D0 λw1 _ D2=>?_
 refine gg 3 rfl ?_
 cases Y
 exact Rn.R1 func218 ⟨rfl,D2.pk []⟩
theorem zH7 {x0:UInt64} {r:Int} (Y:zDe x0=some r) (f0:(rdR 3 0 gl3).H Z0 w) :
 Calls prog 219 #[zAn x0] w λx w'=>x=.returned (iv r)∧Hp Z0 No w w' []:=by
 obtain ⟨D0,D2,hc0⟩:=knA f0;refine eg func219 8 ?_;refine Rn.q rfl (V.eql rfl rfl) (gg 1 rfl ?_);refine bD Y 4 5 (λh3 Y=>?_) (λh3 Y=>?_)
 ·cases Y
  exact Rn.R1 func219 ⟨rfl,D2.pk []⟩
 refine Rn.q rfl (V.neg64U (a:=x0) rfl) (Rn.q rfl (V.o64 rfl rfl x0 (0-x0) rfl rfl (zSl _ _ _)) (Rn.q rfl (V.ari64 (a:=x0&&&(0-x0)) (b:=(285870213051353865:UInt64)) rfl rfl _ rfl (zMu _ _)) (Rn.q rfl (V.sh64 rfl rfl _ 58 rfl rfl (zSk _ _ _ 58 (by decide))) ?_)));obtain ⟨z4,e4,Y⟩:=zA7 Y;obtain ⟨kk4,ke4,kz4,kl4⟩:=zJb e4;have D6:=Hp.knowL [rdR 3 (0+kk4*1) [u8v z4]] _ D2 (knC (λ_ h=>h) (rdT (D2.get 0 rfl) kz4) kn0);refine Rn.q rfl (V.ixR kk4 U270 O5 rfl rfl ke4 (Nat.lt_of_lt_of_eq kl4 rfl)) (Rn.q rfl (V.ldR0 V5 rfl (D6.get 1 rfl).2 rfl) (Rn.q rfl (V.cv8i (a:=z4) U5 U3 rfl) (gg 2 rfl ?_)))
 cases Y
 exact Rn.R1 func219 ⟨rfl,D6.pk []⟩
theorem zDi {x0:zB} {r:Int} (Y:zB7 x0=some r)  :
 Calls prog 182 #[.agg [iv x0.ahead,iv x0.size].toArray] w λx w'=>x=.returned (iv r)∧Hp Z0 No w w' []:=by
 have D0:=Hp.nil Z0 No w;have hc0:=Calm.nil;refine eg func182 2 ?_;refine Rn.box rfl rfl rfl rfl rfl ?_;intro b1 w1 hb1 m1 e1;have D3:=(D0.addBox hb1 e1 m1).nf [zAi _ _ [_,_]] rfl;refine gg 5 rfl (Rn.q rfl (V.ldB V3 rfl (D3.get 0 rfl) rfl) (gg 2 rfl (Rn.q rfl (V.ldB V3 rfl (D3.get 0 rfl) rfl) (gg 3 rfl ?_))))
 cases Y
 exact Rn.R1 func182 ⟨rfl,D3.pk []⟩
theorem zJt {x0:zB} {x1:UInt64} {r:Bool} (Y:zFf x0 x1=some r) (f0:(rdR 1 0 gl1).H Z0 w) (f1:(rdR 3 0 gl3).H Z0 w) :
 Calls prog 181 #[.agg [iv x0.ahead,iv x0.size].toArray,zAn x1] w λx w'=>x=.returned (.bool (r))∧Hp Z0 No w w' []:=by
 obtain ⟨D0,D3,hc0⟩:=knA f0;obtain ⟨D4,hc0⟩:=D3.kn hc0 f1;refine eg func181 2 ?_;refine Rn.box rfl rfl rfl rfl rfl ?_;intro b5 w5 hb5 m5 e5;have D7:=(D4.addBox hb5 e5 m5).nf [_,_,zAi _ _ [_,_]] rfl;refine gg 3 rfl ?_;refine Rn.drawH rfl D7 ?_;intro w8 D8;refine RH.tk 0 rfl (λw' hDr=>V.ldBA [_,_] V188 O188 rfl ((D8.ext hDr).get 2 rfl) rfl rfl) ?_;refine RH.ho 1 rfl (V.ldA (vs:=[iv 0,iv 0]) V188 O188 rfl (D8.get 0 rfl).2 rfl) ?_;refine RH.ho 2 rfl (V.neqT Tryz.eqGuardType188 rfl rfl (zf _ (⟨0,0⟩:zB))) ?_;refine dq [3] ?_;refine zKs Y (RH.partD (t:=8) rfl) (λh9 Y=>?_) (λh9 Y=>?_)
 ·refine dq [4,6] ?_;refine RH.tk 7 rfl (λw' hDr=>V.ldB V3 rfl ((D8.ext hDr).get 2 rfl) rfl) ?_;obtain ⟨p10,e10,Y⟩:=zA7 Y;refine RH.cq (cK func218) 5 (zHb (Z0:=All) e10  :) ?_;rintro _ w10 ⟨rfl,Q10⟩;refine ⟨_,rfl,((Ext.refl _).trans Q10.fr),?_⟩;have D11:=D8.call0 Q10;refine dq [8,9,10] ?_;refine zKs Y (RH.partD (t:=15) rfl) (λh12 Y=>?_) (λh12 Y=>?_)
  ·refine dq [11] ?_;refine RH.tk 13 rfl (λw' hDr=>V.ldBA [_,_] V188 O188 rfl ((D8.ext hDr).get 2 rfl) rfl rfl) ?_;obtain ⟨p13,e13,Y⟩:=zA7 Y;refine RH.cq (cK func219) 12 (zH7 (Z0:=All) e13 (zGo (D11.get 1 rfl)) :) ?_;rintro _ w13 ⟨rfl,Q13⟩;refine ⟨_,rfl,(((Ext.refl _).trans Q10.fr).trans Q13.fr),?_⟩;have D14:=D11.call0 Q13;obtain ⟨p15,e15,Y⟩:=zA7 Y;refine RH.cq (cK func182) 14 (zDi (Z0:=All) e15  :) ?_;rintro _ w15 ⟨rfl,Q15⟩;refine ⟨_,rfl,((((Ext.refl _).trans Q10.fr).trans Q13.fr).trans Q15.fr),?_⟩;have D16:=D14.call0 Q15;refine dq [15,16,17] ?_;refine RH.dn ?_
   cases Y
   exact Rn.R1 func181 ⟨rfl,D16.pk []⟩
  refine dq [11,12,13,14,15,16,17] ?_;refine RH.dn ?_
  cases Y
  exact Rn.R1 func181 ⟨rfl,D11.pk []⟩
 refine dq [4,5,6,7,8,9,10,11,12,13,14,15,16,17] ?_;refine RH.dn ?_
 cases Y
 exact Rn.R1 func181 ⟨rfl,D8.pk []⟩
theorem zNw {x0:UInt64} {r:zB} (Y:zJ8 x0=some r) (f0:(rdR 3 0 gl3).H Z0 w) :
 Calls prog 183 #[zAn x0] w λx w'=>x=.returned (.agg [iv r.ahead,iv r.size].toArray)∧Hp Z0 No w w' []:=by
 obtain ⟨D0,D2,hc0⟩:=knA f0;refine eg func183 2 ?_
 refine Rn.al D2 Tryz.zeroValue188 λb3 w3 D5=>?_
 replace D5:=D5.nf [_,zAi _ _ [_,_]] rfl;refine gg 4 rfl ?_;obtain ⟨p6,e6,Y⟩:=zA7 Y
 refine Rn.c0 (cK func218) (zHb (Z0:=All) e6  :) D5 λw6 _ D7=>?_
 refine Rn.q rfl (V.mini rfl rfl) (gg 8 rfl ?_);obtain ⟨p8,e8,Y⟩:=zA7 Y
 refine Rn.c0 (cK func219) (zH7 (Z0:=All) e8 (zGo (D7.get 0 rfl)) :) D7 λw8 _ D9=>?_
 refine gg 1 rfl (Rn.q rfl (V.bldS (cs:=[_,_]) zg6 rfl rfl) (Rn.sq rfl O188 rfl rfl (D9.get 1 rfl) ?_));intro w10 m10 x10;have D11:=(D9.st 1 rfl x10 m10).nf [_,zAi _ _ [_,_]] rfl;refine gg 1 rfl ?_;refine Rn.retG1 func183 rfl (rvC rfl V188 O188 (D11.get 1 rfl) rfl) ?_;obtain rfl:=zF3 Y;exact ⟨rfl,D11.pk []⟩
theorem m_xor_Row_Put_sim {x0:zAj} {x1:zA3} {x2:UInt64} {r:(zA3×zAj)} (Y:zF x0 x1 x2=some r) (hL:zKt Z0 w [zAi b0 190 [iv x0.n,zAn x0.last,iv x0.win.ahead,iv x0.win.size],zA3.obj F1 b1 x1,rdR 1 0 gl1,rdR 3 0 gl3]) :
 Calls prog 124 #[pt b0 0,pt b1 0,zAn x2] w λx w'=>∃ F_p1,x=.returned (.tuple #[])∧Hp Z0 (LS [zAi b0 190 [iv x0.n,zAn x0.last,iv x0.win.ahead,iv x0.win.size],zA3.obj F1 b1 x1,rdR 1 0 gl1,rdR 3 0 gl3]) w w' [zA3.obj F_p1 b1 r.1,zAi b0 190 [iv r.2.n,zAn r.2.last,iv r.2.win.ahead,iv r.2.win.size]]:=by
 have D0:=hL.start;refine eg func124 6 ?_;refine Rn.q rfl (V.ldB V35 rfl (D0.get 0 rfl) rfl) (Rn.q rfl (V.o64 rfl rfl x2 x0.last rfl rfl (zUc _ _ _)) (gg 3 rfl ?_));refine Rn.jG D0 Y (G:=zA3×zAj×(Nat→Prop)) (λg=>[(0,pt b0 0),(2,zAn x2)]) (λg=>[rdR 1 0 gl1,rdR 3 0 gl3,zA3.obj (g.2.2) b1 (g.1),zAi b0 190 [iv (g.2.1).n,zAn (g.2.1).last,iv (g.2.1).win.ahead,iv (g.2.1).win.size]]) (λj g=>j g.1 g.2.1) ?_ ?_
 ·rintro ⟨y5,y6,F5⟩ w7 D7 Y
  try dsimp only at Y
  refine gg 5 rfl (Rn.q rfl (V.ldB V3 rfl (D7.get 3 rfl) rfl) (gg 3 rfl (Rn.sq rfl O3 rfl rfl (D7.get 3 rfl) ?_)));intro w8 m8 x8;have D9:=(D7.st 3 rfl x8 m8).nf [_,_,_,zAi _ _ [_,_,_,_]] rfl;refine gg 6 rfl (Rn.sq rfl O35 rfl rfl (D9.get 3 rfl) ?_);intro w10 m10 x10;have D11:=(D9.st 3 rfl x10 m10).nf [_,_,_,zAi _ _ [_,_,_,_]] rfl;refine gg 1 rfl ?_;refine Rn.end0 func124 rfl ?_;obtain rfl:=zF3 Y;exact ⟨F5,rfl,D11.pk [2,3]⟩
 intro j1 Y K1;refine gg 6 rfl (Rn.q rfl (V.ldB V3 rfl (D0.get 0 rfl) rfl) (gg 3 rfl ?_));refine bD Y 3 3 (λh12 Y=>?_) (λh12 Y=>?_)
 ·obtain ⟨p13,e13,Y⟩:=zA7 Y;have D14:=D0.cu [0,2,3] [1]
  refine Rn.a1 (cK func176) (m_bitio_Writer_Put_sim e13 D14.lend :) D14 λF13_p0 w13 D16=>?_
  refine gg 2 rfl ?_;exact K1 (p13.2,x0,F13_p0) _ _ sA (D16.pk [1,2,3,0]) Y
 refine Rn.q rfl (V.eql rfl rfl) (gg 2 rfl ?_);refine bD Y 2 5 (λh17 Y=>?_) (λh17 Y=>?_)
 ·obtain ⟨p18,e18,Y⟩:=zA7 Y;have D19:=D0.cu [0,2,3] [1]
  refine Rn.a1 (cK func176) (m_bitio_Writer_Put_sim e18 D19.lend :) D19 λF18_p0 w18 D21=>?_
  refine gg 2 rfl ?_;exact K1 (p18.2,x0,F18_p0) _ _ sA (D21.pk [1,2,3,0]) Y
 refine Rn.q rfl (V.ldBA [_,_] V188 O188 rfl (D0.get 0 rfl) rfl rfl) (gg 1 rfl ?_);obtain ⟨p22,e22,Y⟩:=zA7 Y
 refine Rn.c0 (cK func181) (zJt (Z0:=All) e22 (zGo (D0.get 2 rfl)) (zGo (D0.get 3 rfl)) :) D0 λw22 _ D23=>?_
 refine gg 2 rfl ?_;refine bS Y 3 4 (λh24 Y=>?_) (λh24 Y=>?_)
 ·obtain ⟨p25,e25,Y⟩:=zA7 Y;have D26:=D23.cu [0,2,3] [1]
  refine Rn.a1 (cK func176) (m_bitio_Writer_Put_sim e25 D26.lend :) D26 λF25_p0 w25 D28=>?_
  refine gg 1 rfl ?_;refine Rn.drawK 14 rfl D28 (by kernel_rfl) ?_;intro w29 D29;refine dq [0,1,2,3,4] ?_;refine RH.tk 5 rfl (λw' hDr=>V.ldBA [_,_] V188 O188 rfl ((D29.ext hDr).get 0 rfl) rfl rfl) ?_;refine dq [9,10,11,12] ?_;refine RH.tk 13 rfl (λw' hDr=>V.ldB V3 rfl ((D29.ext hDr).get 0 rfl) rfl) ?_;obtain ⟨p30,e30,Y⟩:=zA7 Y;refine RH.cq (cK func182) 6 (zDi (Z0:=All) e30  :) ?_;rintro _ w30 ⟨rfl,Q30⟩;refine ⟨_,rfl,((Ext.refl _).trans Q30.fr),?_⟩;have D31:=D29.call0 Q30;refine RH.ho 7 rfl (V.cv64 U3 U137 rfl) ?_;refine RH.ho 8 rfl (V.shr64 (a:=x2^^^x0.last) (m:=(zAf p30).toNat) rfl rfl) ?_;refine RG.tailK (by kernel_rfl) ?_;obtain ⟨p32,e32,Y⟩:=zA7 Y;have D33:=D31.cu [0,1,2] [3];refine RH.cq (cK func176) 14 (m_bitio_Writer_Put_sim e32 D33.lend :) ?_;rintro _ w32 ⟨F32_p0,rfl,Q32⟩;refine ⟨_,rfl,trivial,?_⟩;have D35:=D33.callAZ Q32;refine RH.dn ?_;refine gg 1 rfl ?_;exact K1 (p32.2,x0,F32_p0) _ _ sA (D35.pk [1,2,3,0]) Y
 obtain ⟨p36,e36,Y⟩:=zA7 Y
 refine Rn.c0 (cK func183) (zNw (Z0:=All) e36 (zGo (D23.get 3 rfl)) :) D23 λw36 _ D37=>?_
 refine gg 2 rfl (Rn.sq rfl O188 rfl rfl (D37.get 0 rfl) ?_);intro w38 m38 x38;have D39:=(D37.st 0 rfl x38 m38).nf [zAi _ _ [_,_,_,_],_,_,_] rfl;refine gg 4 rfl ?_;obtain ⟨p40,e40,Y⟩:=zA7 Y;have D41:=D39.cu [0,2,3] [1]
 refine Rn.a1 (cK func176) (m_bitio_Writer_Put_sim e40 D41.lend :) D41 λF40_p0 w40 D43=>?_
 refine gg 8 rfl (Rn.q rfl (V.ldB V3 rfl (D43.get 0 rfl) rfl) (Rn.q rfl (V.cv64 U3 U35 rfl) ?_));obtain ⟨p44,e44,Y⟩:=zA7 Y;have D45:=D43.cu [0,1,2] [3]
 refine Rn.a1 (cK func176) (m_bitio_Writer_Put_sim e44 D45.lend :) D45 λF44_p0 w44 D47=>?_
 refine gg 8 rfl (Rn.q rfl (V.ldB V3 rfl (D47.get 0 rfl) rfl) (gg 1 rfl (Rn.q rfl (V.cv64 U3 U35 rfl) ?_)));obtain ⟨p48,e48,Y⟩:=zA7 Y;have D49:=D47.cu [0,1,2] [3]
 refine Rn.a1 (cK func176) (m_bitio_Writer_Put_sim e48 D49.lend :) D49 λF48_p0 w48 D51=>?_
 refine gg 1 rfl ?_;have D55:=(D51.cutF [0] [3] [1,2] rfl (by decide) ⟨λ_ h=>h,λ_ h=>h,trivial⟩).nf ([_,_,_]++[_,_,_]) rfl;refine Rn.drawF rfl D55 ?_;intro w56 hmo56 D56;refine dq [0,1,2,3,4] ?_;refine RH.tk 5 rfl (λw' hDr=>V.ldBA [_,_] V188 O188 rfl ((hmo56.awayK hDr).get 0 rfl) rfl rfl) ?_;refine dq [9,10,11,12] ?_;refine RH.tk 13 rfl (λw' hDr=>V.ldB V3 rfl ((hmo56.awayK hDr).get 0 rfl) rfl) ?_;obtain ⟨p57,e57,Y⟩:=zA7 Y;refine RH.cq (cK func182) 6 (zDi (Z0:=All) e57  :) ?_;rintro _ w57 ⟨rfl,Q57⟩;have D58:=D56.call0 Q57;refine ⟨_,rfl,D58.fr,?_⟩;refine RH.ho 7 rfl (V.cv64 U3 U137 rfl) ?_;refine RH.ho 8 rfl (V.shr64 (a:=x2^^^x0.last) (m:=(zAf p57).toNat) rfl rfl) ?_;obtain ⟨p59,e59,Y⟩:=zA7 Y;have D60:=D58.cu [1,2] [0];refine RH.cq (cK func176) 14 (m_bitio_Writer_Put_sim e59 D60.lend :) ?_;rintro _ w59 ⟨F59_p0,rfl,Q59⟩;have D62:=D60.callAZ Q59;refine ⟨_,rfl,D62.fr,?_⟩;refine RH.dn ?_;have D63:=hmo56.callAZ D62;have D64:=(D63.pk [0,3,4,5]).nq;refine gg 1 rfl ?_;exact K1 (p59.2,(⟨x0.n,x0.last,p36⟩:zAj),F59_p0) _ _ sA (D64.pk [1,2,3,0]) Y
end Go.Proofs.YthjhejgjcdajdaaGreatDoor
