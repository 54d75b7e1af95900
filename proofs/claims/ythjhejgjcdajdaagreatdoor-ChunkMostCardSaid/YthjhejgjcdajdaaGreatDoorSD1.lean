import Derived.Test.YthjhejgjcdajdaaGreatDoorRows
import Derived.Test.YthjhejgjcdajdaaGreatDoorVD2
import Derived.Test.YthjhejgjcdajdaaGreatDoorND
set_option maxRecDepth 20000
set_option maxHeartbeats 4000000
set_option linter.unusedVariables false
set_option linter.unusedSimpArgs false
namespace Go.Proofs.YthjhejgjcdajdaaGreatDoor
open Go Go.RowKit Go.Wk _root_.Go.Proofs.Tryz
variable {Z0:Nat→Prop} {w:World} {F0:Nat→Prop} {F1:Nat→Prop} {F2:Nat→Prop} {F3:Nat→Prop} {F4:Nat→Prop} {F5:Nat→Prop} {b0:Nat} {b1:Nat} {b2:Nat} {b3:Nat} {b4:Nat} {b5:Nat} {A0:Option Addr} {A1:Option Addr} {A2:Option Addr} {A3:Option Addr} {A4:Option Addr} {A5:Option Addr} {c0:Nat} {c1:Nat} {c2:Nat} {c3:Nat} {c4:Nat} {c5:Nat} {cs0:List Value} {cs1:List Value} {cs2:List Value} {cs3:List Value}
def gl1:List Value:=[iv 0,iv 0]
def gl3:List Value:=gt3.map fun x=>u8v x
theorem st38:zQw prog 38 [.int .i64 0,.slice none 0 0] [(0,1),(1,1)]:=⟨Tryz.zeroValue38,_,underlying38,fun w=>by kernel_rfl⟩
theorem st40:zQw prog 40 [.int .i64 0,.int .u64 0,.int .i64 0,.slice none 0 0,.int .i64 0,.slice none 0 0] [(0,1),(1,1),(2,2),(4,2)]:=⟨Tryz.zeroValue40,_,underlying40,fun w=>by kernel_rfl⟩
theorem zd:zQw prog 42 [Str [],.slice none 0 0,.int .i64 0,.int .i64 0,.bool false,.int .i64 0,.int .i64 0,.int .i64 0,.int .u64 0,.int .u64 0,.int .i64 0,.int .u64 0,.int .i64 0,.slice none 0 0,.int .i64 0,.slice none 0 0,.int .i64 0] [(0,1),(1,1),(2,1),(3,1),(4,1),(5,1),(6,1),(7,1),(8,1),(9,1),(10,6),(16,1)]:=⟨Tryz.zeroValue42,_,underlying42,fun w=>by kernel_rfl⟩
theorem st44:zQw prog 44 [.int .i64 0,Str [],.slice none 0 0,.int .i64 0,.int .i64 0,.bool false,.int .i64 0,.int .i64 0,.int .i64 0,.int .u64 0,.int .u64 0,.int .i64 0,.int .u64 0,.int .i64 0,.slice none 0 0,.int .i64 0,.slice none 0 0,.int .i64 0] [(0,1),(1,17)]:=⟨Tryz.zeroValue44,_,underlying44,fun w=>by kernel_rfl⟩
theorem st80:zQw prog 80 [.pointer none,.pointer none,.pointer none,.pointer none,.pointer none,.pointer none,.pointer none] [(0,1),(1,1),(2,1),(3,1),(4,1),(5,1),(6,1)]:=⟨Tryz.zeroValue80,_,underlying80,fun w=>by kernel_rfl⟩
theorem st83:zQw prog 83 [.pointer none,.pointer none,.pointer none,.pointer none,.pointer none,.pointer none,.pointer none,.pointer none,.int .i64 0] [(0,1),(1,7),(8,1)]:=⟨Tryz.zeroValue83,_,underlying83,fun w=>by kernel_rfl⟩
theorem zc:zQw prog 118 [Str [],Str []] [(0,1),(1,1)]:=⟨Tryz.zeroValue118,_,underlying118,fun w=>by kernel_rfl⟩
theorem st122:zQw prog 122 [Str [],.int .i64 0,.int .i64 0,.int .i64 0,.pointer none,.pointer none,.pointer none,.pointer none,.pointer none,.pointer none,.pointer none,.pointer none] [(0,1),(1,1),(2,1),(3,1),(4,1),(5,7)]:=⟨Tryz.zeroValue122,_,underlying122,fun w=>by kernel_rfl⟩
theorem st134:zQw prog 134 [.slice none 0 0,.int .i64 0,.int .i64 0] [(0,1),(1,1),(2,1)]:=⟨Tryz.zeroValue134,_,underlying134,fun w=>by kernel_rfl⟩
theorem st139:zQw prog 139 [.slice none 0 0,.int .i64 0,.int .i64 0] [(0,1),(1,1),(2,1)]:=⟨Tryz.zeroValue139,_,underlying139,fun w=>by kernel_rfl⟩
theorem st172:zQw prog 172 [.slice none 0 0,.int .i64 0] [(0,1),(1,1)]:=⟨Tryz.zeroValue172,_,underlying172,fun w=>by kernel_rfl⟩
theorem st179:zQw prog 179 [.slice none 0 0] [(0,1)]:=⟨Tryz.zeroValue179,_,underlying179,fun w=>by kernel_rfl⟩
theorem st186:zQw prog 186 [.int .i64 0,.int .u64 0,.int .u64 0] [(0,1),(1,1),(2,1)]:=⟨Tryz.zeroValue186,_,underlying186,fun w=>by kernel_rfl⟩
theorem zbz:zQw prog 188 [.int .i64 0,.int .i64 0] [(0,1),(1,1)]:=⟨Tryz.zeroValue188,_,underlying188,fun w=>by kernel_rfl⟩
theorem st190:zQw prog 190 [.int .i64 0,.int .u64 0,.int .i64 0,.int .i64 0] [(0,1),(1,1),(2,2)]:=⟨Tryz.zeroValue190,_,underlying190,fun w=>by kernel_rfl⟩
theorem zby:zQw prog 192 [.int .i64 0,.int .i64 0,.int .u64 0,.int .i64 0,.slice none 0 0,.int .i64 0,.slice none 0 0] [(0,1),(1,6)]:=⟨Tryz.zeroValue192,_,underlying192,fun w=>by kernel_rfl⟩
theorem st200:zQw prog 200 [.pointer none,.int .i64 0] [(0,1),(1,1)]:=⟨Tryz.zeroValue200,_,underlying200,fun w=>by kernel_rfl⟩
theorem st206:zQw prog 206 [.int .i64 0,.int .i64 0,.int .i64 0,.int .i64 0,.int .i64 0] [(0,1),(1,1),(2,1),(3,1),(4,1)]:=⟨Tryz.zeroValue206,_,underlying206,fun w=>by kernel_rfl⟩
theorem zb9:zbg prog 222 [.int .i64 0,.slice none 0 0,.int .i64 0,.slice none 0 0] 2 2 38:=⟨Tryz.zeroValue222,underlying222,sizeOf38⟩
theorem zYl:zbg prog 232 [.int .i64 0,.int .i64 0,.int .i64 0,.int .i64 0,.int .i64 0] 5 1 3:=⟨Tryz.zeroValue232,underlying232,sizeOf3⟩
theorem zYk:zbg prog 234 [.int .i64 0,.int .i64 0,.int .i64 0,.int .i64 0] 4 1 3:=⟨Tryz.zeroValue234,underlying234,sizeOf3⟩
theorem ar270:zbg prog 270 [.int .u8 0,.int .u8 0,.int .u8 0,.int .u8 0,.int .u8 0,.int .u8 0,.int .u8 0,.int .u8 0,.int .u8 0,.int .u8 0,.int .u8 0,.int .u8 0,.int .u8 0,.int .u8 0,.int .u8 0,.int .u8 0,.int .u8 0,.int .u8 0,.int .u8 0,.int .u8 0,.int .u8 0,.int .u8 0,.int .u8 0,.int .u8 0,.int .u8 0,.int .u8 0,.int .u8 0,.int .u8 0,.int .u8 0,.int .u8 0,.int .u8 0,.int .u8 0,.int .u8 0,.int .u8 0,.int .u8 0,.int .u8 0,.int .u8 0,.int .u8 0,.int .u8 0,.int .u8 0,.int .u8 0,.int .u8 0,.int .u8 0,.int .u8 0,.int .u8 0,.int .u8 0,.int .u8 0,.int .u8 0,.int .u8 0,.int .u8 0,.int .u8 0,.int .u8 0,.int .u8 0,.int .u8 0,.int .u8 0,.int .u8 0,.int .u8 0,.int .u8 0,.int .u8 0,.int .u8 0,.int .u8 0,.int .u8 0,.int .u8 0,.int .u8 0] 64 1 5:=⟨Tryz.zeroValue270,underlying270,sizeOf5⟩
theorem fo38:zQx prog 38 [0,1]:=⟨_,underlying38,⟨_,sizeOf3,rfl⟩,rfl,⟨_,sizeOf36,rfl⟩,rfl,trivial⟩
theorem fo40:zQx prog 40 [0,1,2,4]:=⟨_,underlying40,⟨_,sizeOf3,rfl⟩,rfl,⟨_,sizeOf35,rfl⟩,rfl,⟨_,sizeOf38,rfl⟩,rfl,⟨_,sizeOf38,rfl⟩,rfl,trivial⟩
theorem fo42:zQx prog 42 [0,1,2,3,4,5,6,7,8,9,10,16]:=⟨_,underlying42,⟨_,sizeOf9,rfl⟩,rfl,⟨_,sizeOf34,rfl⟩,rfl,⟨_,sizeOf3,rfl⟩,rfl,⟨_,sizeOf3,rfl⟩,rfl,⟨_,sizeOf4,rfl⟩,rfl,⟨_,sizeOf3,rfl⟩,rfl,⟨_,sizeOf3,rfl⟩,rfl,⟨_,sizeOf3,rfl⟩,rfl,⟨_,sizeOf35,rfl⟩,rfl,⟨_,sizeOf35,rfl⟩,rfl,⟨_,sizeOf40,rfl⟩,rfl,⟨_,sizeOf3,rfl⟩,rfl,trivial⟩
theorem fo44:zQx prog 44 [0,1]:=⟨_,underlying44,⟨_,sizeOf3,rfl⟩,rfl,⟨_,sizeOf42,rfl⟩,rfl,trivial⟩
theorem fo80:zQx prog 80 [0,1,2,3,4,5,6]:=⟨_,underlying80,⟨_,sizeOf76,rfl⟩,rfl,⟨_,sizeOf76,rfl⟩,rfl,⟨_,sizeOf76,rfl⟩,rfl,⟨_,sizeOf76,rfl⟩,rfl,⟨_,sizeOf77,rfl⟩,rfl,⟨_,sizeOf77,rfl⟩,rfl,⟨_,sizeOf78,rfl⟩,rfl,trivial⟩
theorem fo83:zQx prog 83 [0,1,8]:=⟨_,underlying83,⟨_,sizeOf72,rfl⟩,rfl,⟨_,sizeOf80,rfl⟩,rfl,⟨_,sizeOf25,rfl⟩,rfl,trivial⟩
theorem fo118:zQx prog 118 [0,1]:=⟨_,underlying118,⟨_,sizeOf9,rfl⟩,rfl,⟨_,sizeOf9,rfl⟩,rfl,trivial⟩
theorem fo122:zQx prog 122 [0,1,2,3,4,5]:=⟨_,underlying122,⟨_,sizeOf9,rfl⟩,rfl,⟨_,sizeOf3,rfl⟩,rfl,⟨_,sizeOf3,rfl⟩,rfl,⟨_,sizeOf3,rfl⟩,rfl,⟨_,sizeOf119,rfl⟩,rfl,⟨_,sizeOf80,rfl⟩,rfl,trivial⟩
theorem fo134:zQx prog 134 [0,1,2]:=⟨_,underlying134,⟨_,sizeOf22,rfl⟩,rfl,⟨_,sizeOf3,rfl⟩,rfl,⟨_,sizeOf25,rfl⟩,rfl,trivial⟩
theorem fo139:zQx prog 139 [0,1,2]:=⟨_,underlying139,⟨_,sizeOf22,rfl⟩,rfl,⟨_,sizeOf3,rfl⟩,rfl,⟨_,sizeOf3,rfl⟩,rfl,trivial⟩
theorem fo172:zQx prog 172 [0,1]:=⟨_,underlying172,⟨_,sizeOf22,rfl⟩,rfl,⟨_,sizeOf3,rfl⟩,rfl,trivial⟩
theorem fo179:zQx prog 179 [0]:=⟨_,underlying179,⟨_,sizeOf22,rfl⟩,rfl,trivial⟩
theorem fo186:zQx prog 186 [0,1,2]:=⟨_,underlying186,⟨_,sizeOf3,rfl⟩,rfl,⟨_,sizeOf35,rfl⟩,rfl,⟨_,sizeOf35,rfl⟩,rfl,trivial⟩
theorem fo188:zQx prog 188 [0,1]:=⟨_,underlying188,⟨_,sizeOf3,rfl⟩,rfl,⟨_,sizeOf3,rfl⟩,rfl,trivial⟩
theorem fo190:zQx prog 190 [0,1,2]:=⟨_,underlying190,⟨_,sizeOf3,rfl⟩,rfl,⟨_,sizeOf35,rfl⟩,rfl,⟨_,sizeOf188,rfl⟩,rfl,trivial⟩
theorem fo192:zQx prog 192 [0,1]:=⟨_,underlying192,⟨_,sizeOf3,rfl⟩,rfl,⟨_,sizeOf40,rfl⟩,rfl,trivial⟩
theorem fo200:zQx prog 200 [0,1]:=⟨_,underlying200,⟨_,sizeOf72,rfl⟩,rfl,⟨_,sizeOf25,rfl⟩,rfl,trivial⟩
def tab:List (Nat×List Nat):=[(38,[0,1]),(40,[0,1,2,4]),(42,[0,1,2,3,4,5,6,7,8,9,10,16]),(44,[0,1]),(80,[0,1,2,3,4,5,6]),(83,[0,1,8]),(118,[0,1]),(122,[0,1,2,3,4,5]),(134,[0,1,2]),(139,[0,1,2]),(172,[0,1]),(179,[0]),(186,[0,1,2]),(188,[0,1]),(190,[0,1,2]),(192,[0,1]),(200,[0,1])]
theorem zZv:zPq prog tab:=(.cons fo38 (.cons fo40 (.cons fo42 (.cons fo44 (.cons fo80 (.cons fo83 (.cons fo118 (.cons fo122 (.cons fo134 (.cons fo139 (.cons fo172 (.cons fo179 (.cons fo186 (.cons fo188 (.cons fo190 (.cons fo192 (.cons fo200 zPq.nil)))))))))))))))))
theorem gg {f:FuncId} {n:Nat} {R:Ending→World→Prop} {k k':List Item} {e e':Env} {w:World} (m:Nat) (h:sr tab n m k e=some (k',e')) (hr:Rn prog f n R k' e' w):Rn prog f n R k e w:=sr_ok zZv m k e h hr
theorem dd {n:Nat} {K:Act→World→Prop} {S:World→Prop} {w:World} {ops:Array Oper} {fuel:Nat} {listed:Array Bool} {e e':Env} (is:List Nat) (hk:zOv ops listed is=true) (hf:Nat.ble is.length fuel=true) (h:dr tab n ops is e=some e') (hr:RG prog n K ops S (fuel-is.length) (zX1 listed is) e' w):RG prog n K ops S fuel listed e w:=zcw zZv is hk hf h hr
theorem dq {n:Nat} {K:Act→World→Prop} {S:World→Prop} {w:World} {ops:Array Oper} {fuel:Nat} {listed:Array Bool} {e e':Env} (is:List Nat) (hr:RG prog n K ops S (fuel-is.length) (zX1 listed is) e' w) (hk:zOv ops listed is=true:=by kernel_rfl) (hf:Nat.ble is.length fuel=true:=by exact rfl) (h:dr tab n ops is e=some e':=by exact rfl):RG prog n K ops S fuel listed e w:=zcw zZv is hk hf h hr
theorem zA.relE {Z:Nat→Prop} {w:World} {vs:List Value} {x:zA} (h:zA.rep.rel Z w vs x):vs=[Str (x.Key),Str (x.Val)]:=by
 obtain ⟨_,_,rfl,⟨rfl,_⟩,⟨rfl,_⟩⟩:=h;exact rfl
theorem zA9.relE {Z:Nat→Prop} {w:World} {vs:List Value} {x:zA9} (h:zA9.rep.rel Z w vs x):∃ (Ar1:Option Addr) (cr1:Nat),vs=[iv x.Offset,.slice Ar1 (x.Counts).length cr1]∧(slR Ar1 cr1 zAq x.Counts).H Z w:=by
 obtain ⟨_,_,rfl,⟨rfl,_⟩,⟨Ar1,cr1,rfl,p1,q1,s1⟩⟩:=h;exact ⟨Ar1,cr1,rfl,⟨p1,q1,s1⟩⟩
theorem zA3.relE {Z:Nat→Prop} {w:World} {vs:List Value} {x:zA3} (h:zA3.rep.rel Z w vs x):∃ (Ar1:Option Addr) (cr1:Nat) (Ar3:Option Addr) (cr3:Nat),vs=[iv x.Scale,zAl x.Zero,iv x.Pos.Offset,.slice Ar1 (x.Pos.Counts).length cr1,iv x.Neg.Offset,.slice Ar3 (x.Neg.Counts).length cr3]∧(slR Ar1 cr1 zAq x.Pos.Counts).H Z w∧(slR Ar3 cr3 zAq x.Neg.Counts).H Z w:=by
 obtain ⟨_,_,rfl,⟨rfl,_⟩,⟨_,_,rfl,⟨rfl,_⟩,⟨_,_,rfl,⟨_,_,rfl,⟨rfl,_⟩,⟨Ar1,cr1,rfl,p1,q1,s1⟩⟩,⟨_,_,rfl,⟨rfl,_⟩,⟨Ar3,cr3,rfl,p3,q3,s3⟩⟩⟩⟩⟩:=h;exact ⟨Ar1,cr1,Ar3,cr3,rfl,⟨p1,q1,s1⟩,⟨p3,q3,s3⟩⟩
theorem zA6.relE {Z:Nat→Prop} {w:World} {vs:List Value} {x:zA6} (h:zA6.rep.rel Z w vs x):∃ (Ar1:Option Addr) (cr1:Nat) (Ar3:Option Addr) (cr3:Nat) (Ar5:Option Addr) (cr5:Nat),vs=[Str (x.Name),.slice Ar1 (x.Attrs).length cr1,iv x.Kind,iv x.Temp,.bool (x.Mono),iv x.Start,iv x.Time,iv x.Int_,zAl x.Re,zAl x.Im,iv x.Hist.Scale,zAl x.Hist.Zero,iv x.Hist.Pos.Offset,.slice Ar3 (x.Hist.Pos.Counts).length cr3,iv x.Hist.Neg.Offset,.slice Ar5 (x.Hist.Neg.Counts).length cr5,iv x.Flags]∧(slR Ar1 cr1 zA.rep x.Attrs).H Z w∧(slR Ar3 cr3 zAq x.Hist.Pos.Counts).H Z w∧(slR Ar5 cr5 zAq x.Hist.Neg.Counts).H Z w:=by
 obtain ⟨_,_,rfl,⟨rfl,_⟩,⟨_,_,rfl,⟨Ar1,cr1,rfl,p1,q1,s1⟩,⟨_,_,rfl,⟨rfl,_⟩,⟨_,_,rfl,⟨rfl,_⟩,⟨_,_,rfl,⟨rfl,_⟩,⟨_,_,rfl,⟨rfl,_⟩,⟨_,_,rfl,⟨rfl,_⟩,⟨_,_,rfl,⟨rfl,_⟩,⟨_,_,rfl,⟨rfl,_⟩,⟨_,_,rfl,⟨rfl,_⟩,⟨_,_,rfl,⟨_,_,rfl,⟨rfl,_⟩,⟨_,_,rfl,⟨rfl,_⟩,⟨_,_,rfl,⟨_,_,rfl,⟨rfl,_⟩,⟨Ar3,cr3,rfl,p3,q3,s3⟩⟩,⟨_,_,rfl,⟨rfl,_⟩,⟨Ar5,cr5,rfl,p5,q5,s5⟩⟩⟩⟩⟩,⟨rfl,_⟩⟩⟩⟩⟩⟩⟩⟩⟩⟩⟩⟩:=h;exact ⟨Ar1,cr1,Ar3,cr3,Ar5,cr5,rfl,⟨p1,q1,s1⟩,⟨p3,q3,s3⟩,⟨p5,q5,s5⟩⟩
theorem zAm.relE {Z:Nat→Prop} {w:World} {vs:List Value} {x:zAm} (h:zAm.rep.rel Z w vs x):∃ (Ar1:Option Addr) (cr1:Nat) (Ar3:Option Addr) (cr3:Nat) (Ar5:Option Addr) (cr5:Nat),vs=[iv x.Ord,Str (x.Point.Name),.slice Ar1 (x.Point.Attrs).length cr1,iv x.Point.Kind,iv x.Point.Temp,.bool (x.Point.Mono),iv x.Point.Start,iv x.Point.Time,iv x.Point.Int_,zAl x.Point.Re,zAl x.Point.Im,iv x.Point.Hist.Scale,zAl x.Point.Hist.Zero,iv x.Point.Hist.Pos.Offset,.slice Ar3 (x.Point.Hist.Pos.Counts).length cr3,iv x.Point.Hist.Neg.Offset,.slice Ar5 (x.Point.Hist.Neg.Counts).length cr5,iv x.Point.Flags]∧(slR Ar1 cr1 zA.rep x.Point.Attrs).H Z w∧(slR Ar3 cr3 zAq x.Point.Hist.Pos.Counts).H Z w∧(slR Ar5 cr5 zAq x.Point.Hist.Neg.Counts).H Z w:=by
 obtain ⟨_,_,rfl,⟨rfl,_⟩,⟨_,_,rfl,⟨rfl,_⟩,⟨_,_,rfl,⟨Ar1,cr1,rfl,p1,q1,s1⟩,⟨_,_,rfl,⟨rfl,_⟩,⟨_,_,rfl,⟨rfl,_⟩,⟨_,_,rfl,⟨rfl,_⟩,⟨_,_,rfl,⟨rfl,_⟩,⟨_,_,rfl,⟨rfl,_⟩,⟨_,_,rfl,⟨rfl,_⟩,⟨_,_,rfl,⟨rfl,_⟩,⟨_,_,rfl,⟨rfl,_⟩,⟨_,_,rfl,⟨_,_,rfl,⟨rfl,_⟩,⟨_,_,rfl,⟨rfl,_⟩,⟨_,_,rfl,⟨_,_,rfl,⟨rfl,_⟩,⟨Ar3,cr3,rfl,p3,q3,s3⟩⟩,⟨_,_,rfl,⟨rfl,_⟩,⟨Ar5,cr5,rfl,p5,q5,s5⟩⟩⟩⟩⟩,⟨rfl,_⟩⟩⟩⟩⟩⟩⟩⟩⟩⟩⟩⟩⟩:=h;exact ⟨Ar1,cr1,Ar3,cr3,Ar5,cr5,rfl,⟨p1,q1,s1⟩,⟨p3,q3,s3⟩,⟨p5,q5,s5⟩⟩
theorem el5:zQ4 prog 5 1 1:=zP8 (by kernel_rfl) (by decide)
theorem zau:zQ4 prog 35 1 8:=zP8 (by kernel_rfl) (by decide)
theorem el38:zQ4 prog 38 2 32:=zP8 (by kernel_rfl) (by decide)
theorem el44:zQ4 prog 44 18 200:=zP8 (by kernel_rfl) (by decide)
theorem zU9:zQ4 prog 118 2 32:=zP8 (by kernel_rfl) (by decide)
set_option maxRecDepth 20000 in
theorem zYd {Z0:Nat→Prop} (w:World) (A:Option Addr) (c:Nat) (l:List UInt8) {r:List UInt8} (h:(slR A c zCn l).H Z0 w) (hM:zLr [] l=some r) :
 Calls prog 75 #[.slice A l.length c] w fun x w'=>∃ A' c',x=.returned (.slice A' r.length c')∧Hp Z0 No w w' [zBi 5 A' c' zCn r]:=by
 have hm0:=Hp.nil Z0 No w;have hm1:=hm0.know (slR A c zCn l) (fun _ h=>h) (hm0.in0 Calm.nil h);refine Rn.enter func75 rfl rfl (nbl rfl) ?_;refine Rn.seq (Rn.reg (Rn.v rfl rfl rfl rfl (V.as rfl) (Rn.regEnd (Rn.seq (Rn.seq (Rn.reg (Rn.v rfl rfl rfl rfl (V.mv rfl) (Rn.v rfl rfl rfl rfl (V.eqlV underlying22 rfl rfl) (Rn.regEnd ?_)))))))))
 cases A with
 | none=>
  obtain rfl:=zPa h;obtain ⟨_,rfl⟩:=zba hM;refine Rn.condT rfl (Rn.seq (Rn.reg (Rn.v rfl rfl rfl rfl (V.as rfl) (Rn.regEnd ?_))));refine Rn.retG1 func75 rfl (rvT rfl) ?_;exact ⟨none,0,rfl,(hm0.addNil 5 zCn)⟩
 | some a=>
  refine Rn.condF rfl (Rn.skip (Rn.seq (Rn.reg ?_)));refine Rn.bslS (ps:=[]) (us:=[]) rfl rfl rfl underlying22 el5 rfl rfl rfl rfl (by simp) (by decide) ?_;intro b2 w2 hb2 m2 e2;have hm2:=hm1.addLit (rep:=zCn) (xs:=([]:List UInt8)) (vss:=[]) hb2 e2 m2 rfl rfl rfl zVb;refine Rn.v rfl rfl rfl rfl (V.mv rfl) (Rn.appH hm2 1 rfl hM rfl rfl rfl underlying22 el5 rfl rfl rfl rfl (hm2.src 0 rfl) ?_);intro A3 c3 w3 hm3;refine Rn.v rfl rfl rfl rfl (V.as rfl) (Rn.regEnd ?_);refine Rn.retG1 func75 rfl (rvT rfl) ?_;exact ⟨A3,c3,rfl,hm3.pick [1] rfl (by decide)⟩
set_option maxRecDepth 20000 in
theorem zYc {Z0:Nat→Prop} (w:World) (A:Option Addr) (c:Nat) (l:List zA) {r:List zA} (h:(slR A c zA.rep l).H Z0 w) (hM:zLr [] l=some r) :
 Calls prog 89 #[.slice A l.length c] w fun x w'=>∃ A' c',x=.returned (.slice A' r.length c')∧Hp Z0 No w w' [zBi 118 A' c' zA.rep r]:=by
 have hm0:=Hp.nil Z0 No w;have hm1:=hm0.know (slR A c zA.rep l) (fun _ h=>h) (hm0.in0 Calm.nil h);refine Rn.enter func89 rfl rfl (nbl rfl) ?_;refine Rn.seq (Rn.reg (Rn.v rfl rfl rfl rfl (V.as rfl) (Rn.regEnd (Rn.seq (Rn.seq (Rn.reg (Rn.v rfl rfl rfl rfl (V.mv rfl) (Rn.v rfl rfl rfl rfl (V.eqlV underlying34 rfl rfl) (Rn.regEnd ?_)))))))))
 cases A with
 | none=>
  obtain rfl:=zPa h;obtain ⟨_,rfl⟩:=zba hM;refine Rn.condT rfl (Rn.seq (Rn.reg (Rn.v rfl rfl rfl rfl (V.as rfl) (Rn.regEnd ?_))));refine Rn.retG1 func89 rfl (rvT rfl) ?_;exact ⟨none,0,rfl,(hm0.addNil 118 zA.rep)⟩
 | some a=>
  refine Rn.condF rfl (Rn.skip (Rn.seq (Rn.reg ?_)));refine Rn.bslS (ps:=[]) (us:=[]) rfl rfl rfl underlying34 zU9 rfl rfl rfl rfl (by simp) (by decide) ?_;intro b2 w2 hb2 m2 e2;have hm2:=hm1.addLit (rep:=zA.rep) (xs:=([]:List zA)) (vss:=[]) hb2 e2 m2 rfl rfl rfl zVb;refine Rn.v rfl rfl rfl rfl (V.mv rfl) (Rn.appH hm2 1 rfl hM rfl rfl rfl underlying34 zU9 rfl rfl rfl rfl (hm2.src 0 rfl) ?_);intro A3 c3 w3 hm3;refine Rn.v rfl rfl rfl rfl (V.as rfl) (Rn.regEnd ?_);refine Rn.retG1 func89 rfl (rvT rfl) ?_;exact ⟨A3,c3,rfl,hm3.pick [1] rfl (by decide)⟩
set_option maxRecDepth 20000 in
theorem zW7 {Z0:Nat→Prop} (w:World) (A:Option Addr) (c:Nat) (l:List UInt64) {r:List UInt64} (h:(slR A c zAq l).H Z0 w) (hM:zLr [] l=some r) :
 Calls prog 148 #[.slice A l.length c] w fun x w'=>∃ A' c',x=.returned (.slice A' r.length c')∧Hp Z0 No w w' [zBi 35 A' c' zAq r]:=by
 have hm0:=Hp.nil Z0 No w;have hm1:=hm0.know (slR A c zAq l) (fun _ h=>h) (hm0.in0 Calm.nil h);refine Rn.enter func148 rfl rfl (nbl rfl) ?_;refine Rn.seq (Rn.reg (Rn.v rfl rfl rfl rfl (V.as rfl) (Rn.regEnd (Rn.seq (Rn.seq (Rn.reg (Rn.v rfl rfl rfl rfl (V.mv rfl) (Rn.v rfl rfl rfl rfl (V.eqlV underlying36 rfl rfl) (Rn.regEnd ?_)))))))))
 cases A with
 | none=>
  obtain rfl:=zPa h;obtain ⟨_,rfl⟩:=zba hM;refine Rn.condT rfl (Rn.seq (Rn.reg (Rn.v rfl rfl rfl rfl (V.as rfl) (Rn.regEnd ?_))));refine Rn.retG1 func148 rfl (rvT rfl) ?_;exact ⟨none,0,rfl,(hm0.addNil 35 zAq)⟩
 | some a=>
  refine Rn.condF rfl (Rn.skip (Rn.seq (Rn.reg ?_)));refine Rn.bslS (ps:=[]) (us:=[]) rfl rfl rfl underlying36 zau rfl rfl rfl rfl (by simp) (by decide) ?_;intro b2 w2 hb2 m2 e2;have hm2:=hm1.addLit (rep:=zAq) (xs:=([]:List UInt64)) (vss:=[]) hb2 e2 m2 rfl rfl rfl zVb;refine Rn.v rfl rfl rfl rfl (V.mv rfl) (Rn.appH hm2 1 rfl hM rfl rfl rfl underlying36 zau rfl rfl rfl rfl (hm2.src 0 rfl) ?_);intro A3 c3 w3 hm3;refine Rn.v rfl rfl rfl rfl (V.as rfl) (Rn.regEnd ?_);refine Rn.retG1 func148 rfl (rvT rfl) ?_;exact ⟨A3,c3,rfl,hm3.pick [1] rfl (by decide)⟩
set_option maxRecDepth 20000 in
theorem zYh (b:Nat) (p:Option Addr) (v:Value) (w:World) (hp:p=none∨p=some ⟨b,0,none⟩) (hB:Blk w b 226 [.pointer p,v]) :
 Calls prog 211 #[.pointer (some ⟨b,0,none⟩)] w fun x w'=>x=.returned (.tuple #[])∧Blk w' b 226 [.pointer (some ⟨b,0,none⟩),v]∧Fr (fun x=>x=b) w w':=by
 have hsz:(prog.info? 226).map (·.size)=some 2:=by kernel_rfl
 obtain ⟨j,hj,hjs0⟩:=Option.map_eq_some_iff.1 hsz
 have hjs:j.size≠0:=by rw [hjs0];decide
 refine Rn.enter func211 rfl rfl (nbl rfl) ?_;refine Rn.seq (Rn.reg (Rn.v rfl rfl rfl rfl (V.mv rfl) (Rn.v rfl rfl rfl rfl (V.nil rfl) (Rn.v rfl rfl rfl rfl (V.fa underlying226 rfl sizeOf224 rfl rfl) (Rn.v rfl rfl rfl rfl (V.ldB isAgg224 rfl hB rfl) (Rn.v rfl rfl rfl rfl (V.eqlP underlying224 rfl rfl) (Rn.regEnd ?_)))))))
 rcases hp with rfl|rfl
 refine Rn.condT rfl (Rn.reg (Rn.v rfl rfl rfl rfl (V.mv rfl) (Rn.v rfl rfl rfl rfl (V.mv rfl) (Rn.v rfl rfl rfl rfl (V.toUns underlying224 underlying267 hj hjs rfl hB (by simp)) (Rn.v rfl rfl rfl rfl (V.noEsc func230 (by kernel_rfl) (by kernel_rfl) (by kernel_rfl) (by kernel_rfl) rfl) (Rn.v rfl rfl rfl rfl (V.fromUns underlying267 underlying224 hj rfl hB (by kernel_rfl)) (Rn.v rfl rfl rfl rfl (V.nil rfl) (Rn.v rfl rfl rfl rfl (V.fa underlying226 rfl sizeOf224 rfl rfl) (Rn.st rfl rfl sizeOf224 rfl rfl rfl rfl (by first|exact zJg rfl|(simp [Value.oneCell'];done)) hB (by first|exact nbl rfl|(simp;done)) ?_)))))))));intro w1 m1 x1;have e1:Fr (fun x=>x=b) w w1:=((Fr.refl _ _)).trans' x1 (fun x hx=>by first | exact .inl hx | exact .inr (by subst hx;omega));refine Rn.regEnd ?_;refine Rn.end0 func211 rfl ?_;exact ⟨rfl,m1,x1⟩;refine Rn.condF rfl (Rn.seq (Rn.reg (Rn.v rfl rfl rfl rfl (V.mv rfl) (Rn.v rfl rfl rfl rfl (V.nil rfl) (Rn.v rfl rfl rfl rfl (V.fa underlying226 rfl sizeOf224 rfl rfl) (Rn.v rfl rfl rfl rfl (V.ldB isAgg224 rfl hB rfl) (Rn.v rfl rfl rfl rfl (V.mv rfl) (Rn.v rfl rfl rfl rfl (V.neqSame underlying224 hj rfl rfl) (Rn.regEnd (Rn.condF rfl (Rn.skip ?_)))))))))));refine Rn.end0 func211 rfl ?_;exact ⟨rfl,hB,Fr.refl _ _⟩
set_option maxRecDepth 20000 in
theorem zZi {Z0:Nat→Prop} (w:World) (b:Nat) (A:Option Addr) (c:Nat) (l s:List UInt8) {z:List UInt8} (hL:zIg Z0 w [zWp 226 5 b A c l]) (hz:zLr l s=some z) :
 Calls prog 171 #[.pointer (some ⟨b,0,none⟩),Str s] w fun x w'=>∃ A' c',x=.returned (.tuple #[.int .i64 s.length,.nilIface])∧Hp Z0 (LS [zWp 226 5 b A c l]) w w' [zWp 226 5 b A' c' z]:=by
 obtain ⟨hle,rfl⟩:=zba hz;have hm0:=hL.start;obtain ⟨p,hp,hB,hO,hne,hnil⟩:=hm0.get 0 rfl;refine Rn.enter func171 rfl rfl (nbl rfl) ?_;refine Rn.seq (Rn.reg (Rn.v rfl rfl rfl rfl (V.as rfl) (Rn.v rfl rfl rfl rfl (V.as rfl) (Rn.regEnd (Rn.seq (Rn.reg (Rn.v rfl rfl rfl rfl (V.mv rfl) (Rn.cl (cK func211) rfl rfl rfl rfl (zYh b p _ _ hp hB) ?_))))))));rintro _ w1 ⟨rfl,mB1,x1⟩;have e1:Fr (fun x=>x=b∨ob A x) w w1:=((Fr.refl _ _)).trans' x1 (fun x hx=>by first | exact .inl (.inl hx) | exact .inl (.inr hx));refine ⟨_,rfl,?_⟩;refine Rn.regEnd (Rn.seq (Rn.reg (Rn.v rfl rfl rfl rfl (V.mv rfl) (Rn.v rfl rfl rfl rfl (V.mv rfl) (Rn.v rfl rfl rfl rfl (V.nil rfl) (Rn.v rfl rfl rfl rfl (V.fa underlying226 rfl sizeOf22 rfl rfl) (Rn.v rfl rfl rfl rfl (V.ldB isAgg22 rfl mB1 rfl) (Rn.v rfl rfl rfl rfl (V.mv rfl) ?_))))))));have hO2:=hO.fr x1 (fun _ h=>h.elim) (fun x hx hh=>hne (hh▸hx));refine Rn.appS rfl rfl rfl underlying22 underlying9 el5 rfl rfl hO2 hle ?_;intro A2 c2 w2 o2 x2 q2 n2;have e2:Fr (fun x=>x=b∨ob A x) w w2:=(e1).trans' x2 (fun x hx=>by first | exact .inl (.inl hx) | exact .inl (.inr hx));refine Rn.v rfl rfl rfl rfl (V.nil rfl) (Rn.v rfl rfl rfl rfl (V.fa underlying226 rfl sizeOf22 rfl rfl) (Rn.st rfl rfl sizeOf22 rfl rfl rfl rfl (by first|exact zJg rfl|(simp [Value.oneCell'];done)) (mB1.fr x2 hne) (by first|exact nbl rfl|(simp;done)) ?_));intro w3 m3 x3;have e3:Fr (fun x=>x=b∨ob A x) w w3:=(e2).trans' x3 (fun x hx=>by first | exact .inl (.inl hx) | exact .inl (.inr hx));refine Rn.regEnd (Rn.seq (Rn.reg (Rn.v rfl rfl rfl rfl (V.mv rfl) (Rn.v rfl rfl rfl rfl (V.lenS underlying9 rfl) (Rn.v rfl rfl rfl rfl (V.as rfl) (Rn.v rfl rfl rfl rfl (V.as rfl) (Rn.regEnd ?_)))))));refine Rn.ret2 func171 rfl rfl rfl ?_;have hsz:=x1.size;have hlt:=mB1.lt
 have hnb:¬ob A2 b:=fun hh=>by rcases q2 b hh with h | h;exact hne h;omega
 exact ⟨A2,c2,rfl,hm0.upd 0 (zWp 226 5 b A2 c2 (l++s)) rfl (((x1.mono fun y hy=>.inl hy).trans (x2.mono fun y hy=>.inr hy)).trans (x3.mono fun y hy=>.inl hy)) (fun x hx=>by rcases hx with hx|hx;exact .inl (.inl hx);rcases q2 x hx with h|h;exact .inl (.inr h);exact .inr (by omega)) (fun _ _ _=>⟨_,.inr rfl,m3,o2.fr x3 (fun _ h=>h.elim) (fun x hx hh=>hnb (hh▸hx)),hnb,fun h=>n2 h (hnil (List.append_eq_nil_iff.1 h).1)⟩)⟩
set_option maxRecDepth 20000 in
theorem zb1 {Z0:Nat→Prop} (w:World) (b:Nat) (A:Option Addr) (c:Nat) (l:List UInt8) (hL:zIg Z0 w [zWp 226 5 b A c l]) :
 Calls prog 173 #[.pointer (some ⟨b,0,none⟩)] w fun x w'=>x=.returned (Str l)∧Hp Z0 (LS [zWp 226 5 b A c l]) w w' []:=by
 have hm0:=hL.start.ext (Ext.drew w);obtain ⟨p,hp,hB,hO,hne,hnil⟩:=hm0.get 0 rfl;refine Rn.enter func173 rfl rfl (nbl rfl) ?_;refine Rn.seq (Rn.reg (Rn.v rfl rfl rfl rfl (V.as rfl) (Rn.regEnd (Rn.seq ?_))));refine Rn.draw (fun w'=>Blk w' b 226 [.pointer p,.slice A l.length c]) rfl hB ?_;refine RH.take 0 (by kernel_rfl) rfl rfl rfl rfl (fun w' hDr=>V.mv rfl) ?_;refine RH.take 1 (by kernel_rfl) rfl rfl rfl rfl (fun w' hDr=>V.nil rfl) ?_;refine RH.take 2 (by kernel_rfl) rfl rfl rfl rfl (fun w' hDr=>V.fa underlying226 rfl sizeOf22 rfl rfl) ?_;refine RH.take 3 (by kernel_rfl) rfl rfl rfl rfl (fun w' hDr=>V.ldB isAgg22 rfl hDr rfl) ?_;refine RH.take 4 (by kernel_rfl) rfl rfl rfl rfl (fun w' hDr=>uData rfl hO hnil w') ?_;refine RH.take 5 (by kernel_rfl) rfl rfl rfl rfl (fun w' hDr=>V.mv rfl) ?_;refine RH.take 6 (by kernel_rfl) rfl rfl rfl rfl (fun w' hDr=>V.nil rfl) ?_;refine RH.take 7 (by kernel_rfl) rfl rfl rfl rfl (fun w' hDr=>V.fa underlying226 rfl sizeOf22 rfl rfl) ?_;refine RH.take 8 (by kernel_rfl) rfl rfl rfl rfl (fun w' hDr=>V.ldB isAgg22 rfl hDr rfl) ?_;refine RH.take 9 (by kernel_rfl) rfl rfl rfl rfl (fun w' hDr=>V.lenV underlying22 rfl) ?_;obtain ⟨w2,hr,hF⟩:=zWw (P:=prog) (ty:=9) (pt:=258) (it:=3) underlying258 (by kernel_rfl:prog.cellsOf 5=1) hO hnil;refine RH.one 10 (by kernel_rfl) rfl rfl rfl rfl (V.uStr hr rfl rfl) (hB.fr hF hne) ?_;refine RH.take 11 (by kernel_rfl) rfl rfl rfl rfl (fun w' hDr=>V.as rfl) ?_;refine RH.doneP (by kernel_rfl) ?_;refine Rn.retG1 func173 rfl (rvT rfl) ?_;exact ⟨rfl,hm0.end1 (hF.mono fun y hy=>.inr hy)⟩
theorem eq118 (a b:zA) (w:World):(Op.equalIn 10000 118 (.agg [Str (a.Key),Str (a.Val)].toArray) (.agg [Str (b.Key),Str (b.Val)].toArray)).run prog w=.ok (decide (a=b)) w:=by
 refine zSe (p:=a=b) (by kernel_rfl) underlying118 Tryz.stoodInHeld118 (zIs rfl isAgg9 rfl rfl (eqS w a.Key b.Key underlying9) (zIs rfl isAgg9 rfl rfl (eqS w a.Val b.Val underlying9) zSf)) ?_
 cases a;cases b;simp only [zA.mk.injEq,and_true]
theorem zar (a b:zAt) (w:World):(Op.equalIn 10000 188 (.agg [iv a.ahead,iv a.size].toArray) (.agg [iv b.ahead,iv b.size].toArray)).run prog w=.ok (decide (a=b)) w:=by
 refine zSe (p:=a=b) (by kernel_rfl) underlying188 Tryz.stoodInHeld188 (zIs rfl isAgg3 rfl rfl (eqI w a.ahead b.ahead underlying3) (zIs rfl isAgg3 rfl rfl (eqI w a.size b.size underlying3) zSf)) ?_
 cases a;cases b;simp only [zAt.mk.injEq,and_true]
theorem zcv (a b:zE5) (w:World):(Op.equalIn 10000 206 (.agg [iv a.scale,iv a.posAt,iv a.posSize,iv a.negAt,iv a.negSize].toArray) (.agg [iv b.scale,iv b.posAt,iv b.posSize,iv b.negAt,iv b.negSize].toArray)).run prog w=.ok (decide (a=b)) w:=by
 refine zSe (p:=a=b) (by kernel_rfl) underlying206 Tryz.stoodInHeld206 (zIs rfl isAgg3 rfl rfl (eqI w a.scale b.scale underlying3) (zIs rfl isAgg3 rfl rfl (eqI w a.posAt b.posAt underlying3) (zIs rfl isAgg3 rfl rfl (eqI w a.posSize b.posSize underlying3) (zIs rfl isAgg3 rfl rfl (eqI w a.negAt b.negAt underlying3) (zIs rfl isAgg3 rfl rfl (eqI w a.negSize b.negSize underlying3) zSf))))) ?_
 cases a;cases b;simp only [zE5.mk.injEq,and_true]
theorem zK2 {x0:UInt8} {r:Bool} (hM:zGe x0=some r)  :
 Calls prog 162 #[u8v x0] w fun x w'=>x=.returned (.bool (r))∧Hp Z0 No w w' []:=by
 have hm0:=Hp.nil Z0 No w;have hc0:=Calm.nil;refine Rn.en func162 ?_;refine gg 7 rfl (Rn.q rfl (V.geq rfl rfl) (gg 1 rfl ?_));refine Rn.cutR [6] [(8,.bool (decide ((((x0).toNat:Int)≥97)∧(((x0).toNat:Int)≤122))))] (fun hk1=>?_) ?_
 ·refine Rn.partD (t:=5) rfl (fun h2=>?_) (fun h2=>?_)
  ·refine gg 1 rfl (Rn.q rfl (V.leq rfl rfl) (gg 1 rfl ?_));exact hk1 _ sA
  refine gg 3 rfl ?_;exact hk1 _ sA
 refine gg 2 rfl ?_
 cases hM
 exact Rn.R1 func162 ⟨rfl,hm0.pk []⟩
theorem zG0 {x0:(List UInt8)} {r:Bool} (hM:zEh x0=some r)  :
 Calls prog 103 #[Str (x0)] w fun x w'=>x=.returned (.bool (r))∧Hp Z0 No w w' []:=by
 have hm0:=Hp.nil Z0 No w;have hc0:=Calm.nil;refine Rn.en func103 ?_;refine gg 8 rfl (Rn.q rfl (V.eqlS rfl rfl) (gg 1 rfl ?_));refine Rn.cutR [7,8,9,10,11,12] [(0,Str (x0)),(11,.bool (decide ((x0=([]:List UInt8))∨((x0.length:Int)>32))))] (fun hk1=>?_) ?_
 ·refine Rn.partD (t:=7) rfl (fun h2=>?_) (fun h2=>?_)
  ·refine gg 4 rfl ?_;exact hk1 _ sA
  refine gg 1 rfl (Rn.q rfl (V.lenS underlying9 rfl) (gg 2 rfl ?_));exact hk1 _ sA
 refine gg 1 rfl ?_;refine Rn.jR hm0 hM (G:=Bool) [] (fun g=>[(0,Str (x0)),(17,.bool (g))]) (fun g=>[]) (fun j g=>j g) ?_ ?_
 ·rintro y3 w4 hm4 hM
  try dsimp only at hM
  refine gg 1 rfl ?_;refine aS hM (fun h5 hM=>?_) (fun h5 hM=>?_)
  ·refine gg 4 rfl ?_
   cases hM
   exact Rn.R1 func103 ⟨rfl,hm4.pk []⟩
  refine gg 5 rfl ?_;obtain ⟨z6,e6,hM⟩:=zAb hM;refine Rn.s2bH hm4 e6 rfl rfl rfl underlying9 underlying22 underlying5 rfl ?_;intro A6 c6 w6 hm6;refine Rn.q rfl (V.lenV underlying22 rfl) (gg 2 rfl ?_);refine Rn.jG hm0 hM (G:=Unit) (fun g=>[]) (fun g=>[]) (fun j g=>j ()) ?_ ?_
  ·rintro _ w8 hm8 hM
   try dsimp only at hM
   refine gg 4 rfl ?_
   cases hM
   exact Rn.R1 func103 ⟨rfl,hm8.pk []⟩
  intro j2 hM hk2;refine gg 1 rfl ?_;refine Rn.loopF (G:=Int) (fun g=>[(19,.slice A6 (z6).length c6),(20,iv (z6.length:Int)),(21,iv g)]) (fun g w'=>Hp Z0 No w w' [slR A6 c6 zCn z6]) (fun n g=>zC0 z6 j2 n g) fuel 0 sA (hm6.pk [0]) hM (fun _=>rfl) ?_;clear hM;rintro m10 y9 w10 hm10 hM hn10;replace hM:zC0 z6 j2 (m10+1) y9=some r:=hM;rw [zC0] at hM;refine gg 5 rfl ?_;refine aD hM (fun h11 hM=>?_) (fun h11 hM=>?_)
  ·refine gg 5 rfl ?_;obtain ⟨z12,e12,hM⟩:=zAb hM;refine Rn.ixH hm10 0 rfl e12 rfl rfl rfl underlying22 sizeOf5 rfl rfl rfl rfl ?_;rintro b12 o12 vs12 ⟨rfl,_⟩ hm12;refine Rn.q rfl (V.ldR0 isAgg5 rfl (hm12.get 1 rfl).2 rfl) (gg 5 rfl ?_);obtain ⟨p14,e14,hM⟩:=zAb hM
   refine Rn.c0 (cK func162) (zK2 (Z0:=All) e14  :) hm12 fun w14 _ hm15=>?_
   refine Rn.q rfl (V.notB rfl) (gg 1 rfl ?_);refine Rn.cutR [11,12,13,14,15,16,17,18] [(4,u8v z12),(19,.slice A6 (z6).length c6),(20,iv (z6.length:Int)),(21,iv y9),(35,.bool (decide (((!p14)=true)∧((((z12).toNat:Int)<48)∨(((z12).toNat:Int)>57)))))] (fun hk16=>?_) ?_
   ·refine Rn.part (t:=28) rfl (fun h17=>?_) (fun h17=>?_)
    ·refine gg 1 rfl (Rn.q rfl (V.lss rfl rfl) (gg 1 rfl ?_));refine Rn.cutR [10,11,12,13,14,15,16,17,18] [(4,u8v z12),(19,.slice A6 (z6).length c6),(20,iv (z6.length:Int)),(21,iv y9),(28,.bool true),(34,.bool (decide ((((z12).toNat:Int)<48)∨(((z12).toNat:Int)>57))))] (fun hk18=>?_) ?_
     ·refine Rn.partD (t:=31) rfl (fun h19=>?_) (fun h19=>?_)
      ·refine gg 3 rfl ?_;exact hk18 _ sA
      refine gg 1 rfl (Rn.q rfl (V.gtr rfl rfl) (gg 1 rfl ?_));exact hk18 _ sA
     refine gg 1 rfl ?_;exact hk16 _ sA
    refine gg 7 rfl ?_;exact hk16 _ sA
   refine gg 1 rfl ?_;refine Rn.cutR [15,16,17,18] [(4,u8v z12),(19,.slice A6 (z6).length c6),(20,iv (z6.length:Int)),(21,iv y9),(39,.bool (decide ((((!p14)=true)∧((((z12).toNat:Int)<48)∨(((z12).toNat:Int)>57)))∧(((z12).toNat:Int)≠95))))] (fun hk20=>?_) ?_
   ·refine Rn.partD (t:=36) rfl (fun h21=>?_) (fun h21=>?_)
    ·refine gg 1 rfl (Rn.q rfl (V.neq rfl rfl) (gg 1 rfl ?_));exact hk20 _ sA
    refine gg 3 rfl ?_;exact hk20 _ sA
   refine gg 1 rfl ?_;refine Rn.cutR [] [(19,.slice A6 (z6).length c6),(20,iv (z6.length:Int)),(21,iv y9),(43,.bool (decide (((((!p14)=true)∧((((z12).toNat:Int)<48)∨(((z12).toNat:Int)>57)))∧(((z12).toNat:Int)≠95))∧(((z12).toNat:Int)≠46))))] (fun hk22=>?_) ?_
   ·refine Rn.partD (t:=40) rfl (fun h23=>?_) (fun h23=>?_)
    ·refine gg 1 rfl (Rn.q rfl (V.neq rfl rfl) (gg 1 rfl ?_));exact hk22 _ sA
    refine gg 3 rfl ?_;exact hk22 _ sA
   refine gg 1 rfl ?_;refine aD hM (fun h24 hM=>?_) (fun h24 hM=>?_)
   ·refine gg 4 rfl ?_
    cases hM
    exact Rn.R1 func103 ⟨rfl,hm15.pk []⟩
   refine gg 6 rfl ?_;exact hn10 (W64 (y9+1)) _ _ sA (hm15.pk [0]) hM
  refine gg 1 rfl ?_;exact hk2 () _ _ (sb trivial) (hm10.pk []) hM
 intro j1 hM hk1;refine zIu hM (Rn.partD (t:=12) rfl) (fun h25 hM=>?_) (fun h25 hM=>?_)
 ·refine gg 5 rfl ?_;exact hk1 true _ _ sA (hm0.pk []) hM
 refine gg 1 rfl ?_;obtain ⟨z26,e26,hM⟩:=zAb hM;refine Rn.q rfl (V.idxSZ underlying9 rfl rfl e26) ?_;obtain ⟨p27,e27,hM⟩:=zAb hM
 refine Rn.c0 (cK func162) (zK2 (Z0:=All) e27  :) hm0 fun w27 _ hm28=>?_
 refine Rn.q rfl (V.notB rfl) (gg 1 rfl ?_);exact hk1 (!p27) _ _ sA (hm28.pk []) hM
theorem zJa {x0:(List UInt8)} {r:Bool} (hM:zFc x0=some r)  :
 Calls prog 163 #[Str (x0)] w fun x w'=>x=.returned (.bool (r))∧Hp Z0 No w w' []:=by
 have hm0:=Hp.nil Z0 No w;have hc0:=Calm.nil;refine Rn.en func163 ?_;refine gg 8 rfl (Rn.q rfl (V.eqlS rfl rfl) (gg 1 rfl ?_));refine Rn.cutR [] [(0,Str (x0)),(11,.bool (decide ((x0=([]:List UInt8))∨((x0.length:Int)>32))))] (fun hk1=>?_) ?_
 ·refine Rn.partD (t:=7) rfl (fun h2=>?_) (fun h2=>?_)
  ·refine gg 4 rfl ?_;exact hk1 _ sA
  refine gg 1 rfl (Rn.q rfl (V.lenS underlying9 rfl) (gg 2 rfl ?_));exact hk1 _ sA
 refine gg 1 rfl ?_;refine aD hM (fun h3 hM=>?_) (fun h3 hM=>?_)
 ·refine gg 4 rfl ?_
  cases hM
  exact Rn.R1 func163 ⟨rfl,hm0.pk []⟩
 refine gg 5 rfl ?_;obtain ⟨z4,e4,hM⟩:=zAb hM;refine Rn.s2bH hm0 e4 rfl rfl rfl underlying9 underlying22 underlying5 rfl ?_;intro A4 c4 w4 hm4;refine Rn.q rfl (V.lenV underlying22 rfl) (gg 2 rfl ?_);refine Rn.jG hm0 hM (G:=Unit) (fun g=>[]) (fun g=>[]) (fun j g=>j ()) ?_ ?_
 ·rintro _ w6 hm6 hM
  try dsimp only at hM
  refine gg 4 rfl ?_
  cases hM
  exact Rn.R1 func163 ⟨rfl,hm6.pk []⟩
 intro j1 hM hk1;refine gg 1 rfl ?_;refine Rn.loopF (G:=Int) (fun g=>[(13,.slice A4 (z4).length c4),(14,iv (z4.length:Int)),(15,iv g)]) (fun g w'=>Hp Z0 No w w' [slR A4 c4 zCn z4]) (fun n g=>zBv z4 j1 n g) fuel 0 sA (hm4.pk [0]) hM (fun _=>rfl) ?_;clear hM;rintro m8 y7 w8 hm8 hM hn8;replace hM:zBv z4 j1 (m8+1) y7=some r:=hM;rw [zBv] at hM;refine gg 5 rfl ?_;refine aD hM (fun h9 hM=>?_) (fun h9 hM=>?_)
 ·refine gg 5 rfl ?_;obtain ⟨z10,e10,hM⟩:=zAb hM;refine Rn.ixH hm8 0 rfl e10 rfl rfl rfl underlying22 sizeOf5 rfl rfl rfl rfl ?_;rintro b10 o10 vs10 ⟨rfl,_⟩ hm10;refine Rn.q rfl (V.ldR0 isAgg5 rfl (hm10.get 1 rfl).2 rfl) (gg 7 rfl (Rn.q rfl (V.lss rfl rfl) (gg 2 rfl ?_)));refine Rn.jG hm0 hM (G:=Bool) (fun g=>[(13,.slice A4 (z4).length c4),(14,iv (z4.length:Int)),(15,iv y7),(19,.bool (g))]) (fun g=>[slR A4 c4 zCn z4]) (fun j g=>j g) ?_ ?_
  ·rintro y12 w13 hm13 hM
   try dsimp only at hM
   refine aS hM (fun h14 hM=>?_) (fun h14 hM=>?_)
   ·refine gg 4 rfl ?_
    cases hM
    exact Rn.R1 func163 ⟨rfl,hm13.pk []⟩
   refine gg 7 rfl ?_;exact hn8 (W64 (y7+1)) _ _ sA (hm13.pk [0]) hM
  intro j2 hM hk2;refine aD hM (fun h15 hM=>?_) (fun h15 hM=>?_)
  ·refine gg 1 rfl ?_;exact hk2 (decide (((z10).toNat:Int)<33)) _ _ sA (hm10.pk [0]) hM
  refine gg 3 rfl (Rn.q rfl (V.gtr rfl rfl) (gg 2 rfl ?_));refine aD hM (fun h16 hM=>?_) (fun h16 hM=>?_)
  ·refine gg 1 rfl ?_;exact hk2 (decide (((z10).toNat:Int)>126)) _ _ sA (hm10.pk [0]) hM
  refine gg 3 rfl (Rn.q rfl (V.eql rfl rfl) (gg 2 rfl ?_));refine aD hM (fun h17 hM=>?_) (fun h17 hM=>?_)
  ·refine gg 1 rfl ?_;exact hk2 (decide (((z10).toNat:Int)=61)) _ _ sA (hm10.pk [0]) hM
  refine gg 3 rfl (Rn.q rfl (V.eql rfl rfl) (gg 2 rfl ?_));refine aD hM (fun h18 hM=>?_) (fun h18 hM=>?_)
  ·refine gg 1 rfl ?_;exact hk2 (decide (((z10).toNat:Int)=59)) _ _ sA (hm10.pk [0]) hM
  refine gg 2 rfl (Rn.q rfl (V.eql rfl rfl) (gg 2 rfl ?_));exact hk2 (decide (((z10).toNat:Int)=44)) _ _ sA (hm10.pk [0]) hM
 refine gg 1 rfl ?_;exact hk1 () _ _ (sb trivial) (hm8.pk []) hM
theorem zM7 {x0:zA} {b1 o1:Nat} {x1:zA} {r:Bool} (hM:zHb x0 x1=some r) (f0:(rdR b1 o1 [Str (x1.Key),Str (x1.Val)]).H Z0 w) :
 Calls prog 165 #[.agg [Str (x0.Key),Str (x0.Val)].toArray,pt b1 o1] w fun x w'=>x=.returned (.bool (r))∧Hp Z0 No w w' []:=by
 have hm0:=Hp.nil Z0 No w;have hc0:=Calm.nil;obtain ⟨hm2,hc0⟩:=hm0.kn hc0 f0;refine Rn.en func165 ?_;refine gg 2 rfl (Rn.box rfl rfl rfl rfl rfl ?_);intro b3 w3 hb3 m3 e3;have hm5:=(hm2.addBox hb3 e3 m3).nf [_,zAh _ _ [_,_]] rfl;refine gg 5 rfl (Rn.q rfl (V.ldB isAgg9 rfl (hm5.get 1 rfl) rfl) (gg 1 rfl (Rn.q rfl (V.ldR0 isAgg9 rfl (hm5.get 0 rfl).2 rfl) (Rn.q rfl (V.eqlS rfl rfl) (gg 2 rfl ?_)))))
 cases hM
 exact Rn.R1 func165 ⟨rfl,hm5.pk []⟩
theorem zFl {x0:(List zA)} {x1_0:zA} {b1_0 o1_0:Nat} {r:Int} (hM:zCo x0 x1_0=some r) (f0:(slR A0 c0 zA.rep x0).H Z0 w) (f1:(rdR b1_0 o1_0 [Str (x1_0.Key),Str (x1_0.Val)]).H Z0 w) :
 Calls prog 208 #[.slice A0 (x0).length c0,.func (.func 165) #[] [pt b1_0 o1_0].toArray] w fun x w'=>x=.returned (iv r)∧Hp Z0 No w w' []:=by
 have hm0:=Hp.nil Z0 No w;have hc0:=Calm.nil;obtain ⟨hm3,hc0⟩:=hm0.kn hc0 f0;obtain ⟨hm4,hc0⟩:=hm3.kn hc0 f1;refine Rn.en func208 ?_;refine gg 8 rfl (Rn.q rfl (V.lenV underlying34 rfl) (gg 2 rfl ?_));refine Rn.jG hm0 hM (G:=Unit) (fun g=>[]) (fun g=>[]) (fun j g=>j ()) ?_ ?_
 ·rintro _ w5 hm5 hM
  try dsimp only at hM
  refine gg 4 rfl ?_
  cases hM
  exact Rn.R1 func208 ⟨rfl,hm5.pk []⟩
 intro j1 hM hk1;refine gg 1 rfl ?_;refine Rn.loopF (G:=Int) (fun g=>[(0,.slice A0 (x0).length c0),(1,.func (.func 165) #[] [pt b1_0 o1_0].toArray),(7,iv (x0.length:Int)),(8,iv g)]) (fun g w'=>Hp Z0 No w w' [slR A0 c0 zA.rep x0,rdR b1_0 o1_0 [Str (x1_0.Key),Str (x1_0.Val)]]) (fun n g=>zAk x0 x1_0 j1 n g) fuel 0 sA (hm4.pk [0,1]) hM (fun _=>rfl) ?_;clear hM;rintro m7 y6 w7 hm7 hM hn7;replace hM:zAk x0 x1_0 j1 (m7+1) y6=some r:=hM;rw [zAk] at hM;refine gg 5 rfl ?_;refine aD hM (fun h8 hM=>?_) (fun h8 hM=>?_)
 ·refine gg 13 rfl ?_;obtain ⟨z9,e9,hM⟩:=zAb hM;refine Rn.ixH hm7 0 rfl e9 rfl rfl rfl underlying34 sizeOf118 rfl rfl rfl rfl ?_;rintro b9 o9 vs9 hr9 hm9;obtain rfl:=zA.relE hr9;refine Rn.q rfl (V.ldA (vs:=[_,_]) isAgg118 sizeOf118 rfl (Rd.pre (hm9.get 2 rfl).2 2) rfl) ?_;obtain ⟨p11,e11,hM⟩:=zAb hM;refine Rn.clV (cK func165) rfl rfl rfl rfl rfl (zM7 (Z0:=All) e11 (zF8 (hm9.get 1 rfl)) :) ?_;rintro _ w11 ⟨rfl,hq11⟩;refine ⟨_,rfl,?_⟩;have hm12:=hm9.call0 hq11;refine gg 1 rfl ?_;refine aS hM (fun h13 hM=>?_) (fun h13 hM=>?_)
  ·refine gg 5 rfl ?_
   cases hM
   exact Rn.R1 func208 ⟨rfl,hm12.pk []⟩
  refine gg 6 rfl ?_;exact hn7 (W64 (y6+1)) _ _ sA (hm12.pk [0,1]) hM
 refine gg 1 rfl ?_;exact hk1 () _ _ (sb trivial) (hm7.pk []) hM
theorem zF3 {x0:(List zA)} {x1_0:zA} {b1_0 o1_0:Nat} {r:Bool} (hM:zBj x0 x1_0=some r) (f0:(slR A0 c0 zA.rep x0).H Z0 w) (f1:(rdR b1_0 o1_0 [Str (x1_0.Key),Str (x1_0.Val)]).H Z0 w) :
 Calls prog 164 #[.slice A0 (x0).length c0,.func (.func 165) #[] [pt b1_0 o1_0].toArray] w fun x w'=>x=.returned (.bool (r))∧Hp Z0 No w w' []:=by
 have hm0:=Hp.nil Z0 No w;have hc0:=Calm.nil;obtain ⟨hm3,hc0⟩:=hm0.kn hc0 f0;obtain ⟨hm4,hc0⟩:=hm3.kn hc0 f1;refine Rn.en func164 ?_;refine gg 8 rfl ?_;obtain ⟨p5,e5,hM⟩:=zAb hM
 refine Rn.c0 (cK func208) (zFl (Z0:=All) e5 (zA7 (hm4.get 0 rfl)) (zF8 (hm4.get 1 rfl)) :) hm4 fun w5 _ hm6=>?_
 refine gg 3 rfl ?_
 cases hM
 exact Rn.R1 func164 ⟨rfl,hm6.pk []⟩
theorem zK3 {x0:(List UInt8)} {x1:(List zA)} {r:Int} (hM:zHc x0 x1=some r) (f0:(slR A1 c1 zA.rep x1).H Z0 w) :
 Calls prog 106 #[Str (x0),.slice A1 (x1).length c1] w fun x w'=>x=.returned (iv r)∧Hp Z0 No w w' []:=by
 have hm0:=Hp.nil Z0 No w;have hc0:=Calm.nil;obtain ⟨hm2,hc0⟩:=hm0.kn hc0 f0;refine Rn.en func106 ?_;refine gg 8 rfl ?_;obtain ⟨p3,e3,hM⟩:=zAb hM
 refine Rn.c0 (cK func103) (zG0 (Z0:=All) e3  :) hm2 fun w3 _ hm4=>?_
 refine Rn.q rfl (V.notB rfl) (gg 1 rfl ?_);refine aS hM (fun h5 hM=>?_) (fun h5 hM=>?_)
 ·refine gg 4 rfl ?_
  cases hM
  exact Rn.R1 func106 ⟨rfl,hm4.pk []⟩
 refine gg 5 rfl (Rn.q rfl (V.lenV underlying34 rfl) (gg 2 rfl ?_));refine aD hM (fun h6 hM=>?_) (fun h6 hM=>?_)
 ·refine gg 4 rfl ?_
  cases hM
  exact Rn.R1 func106 ⟨rfl,hm4.pk []⟩
 refine gg 5 rfl (Rn.q rfl (V.lenV underlying34 rfl) (gg 2 rfl ?_));refine Rn.jG hm0 hM (G:=Unit) (fun g=>[]) (fun g=>[]) (fun j g=>j ()) ?_ ?_
 ·rintro _ w7 hm7 hM
  try dsimp only at hM
  refine gg 4 rfl ?_
  cases hM
  exact Rn.R1 func106 ⟨rfl,hm7.pk []⟩
 intro j1 hM hk1;refine gg 1 rfl ?_;refine Rn.loopF (G:=Int) (fun g=>[(1,.slice A1 (x1).length c1),(13,.slice A1 (x1).length c1),(14,iv (x1.length:Int)),(15,iv g)]) (fun g w'=>Hp Z0 No w w' [slR A1 c1 zA.rep x1]) (fun n g=>zCc x1 j1 n g) fuel 0 sA (hm4.pk [0]) hM (fun _=>rfl) ?_;clear hM;rintro m9 y8 w9 hm9 hM hn9;replace hM:zCc x1 j1 (m9+1) y8=some r:=hM;rw [zCc] at hM;refine gg 5 rfl ?_;refine aD hM (fun h10 hM=>?_) (fun h10 hM=>?_)
 ·refine gg 6 rfl ?_;obtain ⟨z11,e11,hM⟩:=zAb hM;refine Rn.ixH hm9 0 rfl e11 rfl rfl rfl underlying34 sizeOf118 rfl rfl rfl rfl ?_;rintro b11 o11 vs11 hr11 hm11;obtain rfl:=zA.relE hr11;refine Rn.q rfl (V.ldA (vs:=[_,_]) isAgg118 sizeOf118 rfl (Rd.pre (hm11.get 1 rfl).2 2) rfl) (Rn.alloc rfl rfl rfl Tryz.zeroValue118 rfl ?_);intro b13 w13 hb13 m13 e13;have hm15:=(hm11.addBox hb13 e13 m13).nf [_,_,zAh _ _ [_,_]] rfl;refine gg 1 rfl (Rn.sq rfl sizeOf118 rfl rfl (hm15.get 2 rfl) ?_);intro w16 m16 x16;have hm17:=(hm15.st 2 rfl x16 m16).nf [_,_,zAh _ _ [_,_]] rfl;refine gg 5 rfl (Rn.q rfl (V.ldB isAgg9 rfl (hm17.get 2 rfl) rfl) ?_);obtain ⟨p18,e18,hM⟩:=zAb hM
  refine Rn.c0 (cK func103) (zG0 (Z0:=All) e18  :) hm17 fun w18 _ hm19=>?_
  refine Rn.q rfl (V.notB rfl) (gg 1 rfl ?_);refine Rn.jR hm0 hM (G:=Bool) [] (fun g=>[(1,.slice A1 (x1).length c1),(5,iv y8),(6,pt b13 0),(13,.slice A1 (x1).length c1),(14,iv (x1.length:Int)),(15,iv y8),(29,.bool (g))]) (fun g=>[slR A1 c1 zA.rep x1,zAh b13 118 [Str (z11.Key),Str (z11.Val)]]) (fun j g=>j g) ?_ ?_
  ·rintro y20 w21 hm21 hM
   try dsimp only at hM
   refine gg 1 rfl ?_;refine aS hM (fun h22 hM=>?_) (fun h22 hM=>?_)
   ·refine gg 4 rfl ?_
    cases hM
    exact Rn.R1 func106 ⟨rfl,hm21.pk []⟩
   refine gg 5 rfl ?_;obtain ⟨z23,e23,hM⟩:=zAb hM;refine Rn.cutH hm21 0 rfl e23 rfl rfl rfl underlying34 sizeOf118 rfl rfl rfl rfl rfl ?_;intro A23 c23 hm23;refine Rn.q rfl (V.mkF rfl) ?_;obtain ⟨p25,e25,hM⟩:=zAb hM
   refine Rn.c0 (cK func164) (zF3 (Z0:=All) e25 (zA7 (hm23.get 2 rfl)) (zb0 (hm23.get 1 rfl)) :) hm23 fun w25 _ hm26=>?_
   refine gg 1 rfl ?_;refine aS hM (fun h27 hM=>?_) (fun h27 hM=>?_)
   ·refine gg 4 rfl ?_
    cases hM
    exact Rn.R1 func106 ⟨rfl,hm26.pk []⟩
   refine gg 6 rfl ?_;exact hn9 (W64 (y8+1)) _ _ sA (hm26.pk [0]) hM
  intro j2 hM hk2;refine zWq hM (Rn.part (t:=24) rfl) (fun h28 hM=>?_) (fun h28 hM=>?_)
  ·refine gg 5 rfl ?_;exact hk2 true _ _ sA (hm19.pk [0,2]) hM
  refine gg 1 rfl (Rn.q rfl (V.ldB isAgg9 rfl (hm19.get 2 rfl) rfl) ?_);obtain ⟨p29,e29,hM⟩:=zAb hM
  refine Rn.c0 (cK func163) (zJa (Z0:=All) e29  :) hm19 fun w29 _ hm30=>?_
  refine Rn.q rfl (V.notB rfl) (gg 1 rfl ?_);exact hk2 (!p29) _ _ sA (hm30.pk [0,2]) hM
 refine gg 1 rfl ?_;exact hk1 () _ _ (sb trivial) (hm9.pk []) hM
theorem zNa {x0:zA6} {r:Bool} (hM:zIo x0=some r) (h0:zA6.rep.rel Z0 w cs0 x0) :
 Calls prog 107 #[.agg cs0.toArray] w fun x w'=>x=.returned (.bool (r))∧Hp Z0 No w w' []:=by
 have hm0:=Hp.nil Z0 No w;have hc0:=Calm.nil;obtain ⟨Ar1,cr1,Ar3,cr3,Ar5,cr5,rfl,fs1,fs3,fs5⟩:=zA6.relE h0;obtain ⟨hm7,hc0⟩:=hm0.kn (r:=slR Ar1 cr1 zA.rep x0.Attrs) hc0 fs1;obtain ⟨hm8,hc0⟩:=hm7.kn (r:=slR Ar3 cr3 zAq x0.Hist.Pos.Counts) hc0 fs3;obtain ⟨hm9,hc0⟩:=hm8.kn (r:=slR Ar5 cr5 zAq x0.Hist.Neg.Counts) hc0 fs5;refine Rn.en func107 ?_;refine gg 2 rfl (Rn.box rfl rfl rfl rfl rfl ?_);intro b10 w10 hb10 m10 e10;have hm12:=(hm9.addBox hb10 e10 m10).nf [_,_,_,zAh _ _ [_,_,_,_,_,_,_,_,_,_,_,_,_,_,_,_,_]] rfl;refine gg 6 rfl (Rn.q rfl (V.ldB isAgg3 rfl (hm12.get 3 rfl) rfl) (gg 7 rfl ?_));refine aD hM (fun h13 hM=>?_) (fun h13 hM=>?_)
 ·refine gg 3 rfl (Rn.q rfl (V.ldB isAgg3 rfl (hm12.get 3 rfl) rfl) (gg 3 rfl ?_))
  cases hM
  exact Rn.R1 func107 ⟨rfl,hm12.pk []⟩
 refine gg 6 rfl ?_;refine Rn.jG hm0 hM (G:=Bool) (fun g=>[(1,pt b10 0),(10,.bool (g))]) (fun g=>[slR Ar1 cr1 zA.rep x0.Attrs,slR Ar3 cr3 zAq x0.Hist.Pos.Counts,slR Ar5 cr5 zAq x0.Hist.Neg.Counts,zAh b10 42 [Str (x0.Name),.slice Ar1 (x0.Attrs).length cr1,iv x0.Kind,iv x0.Temp,.bool (x0.Mono),iv x0.Start,iv x0.Time,iv x0.Int_,zAl x0.Re,zAl x0.Im,iv x0.Hist.Scale,zAl x0.Hist.Zero,iv x0.Hist.Pos.Offset,.slice Ar3 (x0.Hist.Pos.Counts).length cr3,iv x0.Hist.Neg.Offset,.slice Ar5 (x0.Hist.Neg.Counts).length cr5,iv x0.Flags]]) (fun j g=>j g) ?_ ?_
 ·rintro y14 w15 hm15 hM
  try dsimp only at hM
  refine aS hM (fun h16 hM=>?_) (fun h16 hM=>?_)
  ·refine gg 3 rfl (Rn.q rfl (V.ldB isAgg3 rfl (hm15.get 3 rfl) rfl) (gg 2 rfl ?_));refine Rn.cutR [8] [(22,.bool (decide ((x0.Temp=1)∨(x0.Temp=2))))] (fun hk17=>?_) ?_
   ·refine Rn.partD (t:=18) rfl (fun h18=>?_) (fun h18=>?_)
    ·refine gg 4 rfl ?_;exact hk17 _ sA
    refine gg 1 rfl (Rn.q rfl (V.ldB isAgg3 rfl (hm15.get 3 rfl) rfl) (gg 2 rfl ?_));exact hk17 _ sA
   refine gg 2 rfl ?_
   cases hM
   exact Rn.R1 func107 ⟨rfl,hm15.pk []⟩
  refine gg 6 rfl ?_
  cases hM
  exact Rn.R1 func107 ⟨rfl,hm15.pk []⟩
 intro j1 hM hk1;refine aD hM (fun h19 hM=>?_) (fun h19 hM=>?_)
 ·refine gg 1 rfl ?_;exact hk1 (decide (x0.Kind=1)) _ _ sA (hm12.pk [0,1,2,3]) hM
 refine gg 5 rfl ?_;refine aD hM (fun h20 hM=>?_) (fun h20 hM=>?_)
 ·refine gg 1 rfl ?_;exact hk1 (decide (x0.Kind=2)) _ _ sA (hm12.pk [0,1,2,3]) hM
 refine gg 5 rfl ?_;refine aD hM (fun h21 hM=>?_) (fun h21 hM=>?_)
 ·refine gg 1 rfl ?_;exact hk1 (decide (x0.Kind=4)) _ _ sA (hm12.pk [0,1,2,3]) hM
 refine gg 4 rfl ?_;exact hk1 (decide (x0.Kind=5)) _ _ sA (hm12.pk [0,1,2,3]) hM
theorem zOz {x0:zA6} {r:Bool} (hM:zM5 x0=some r) (h0:zA6.rep.rel Z0 w cs0 x0) :
 Calls prog 108 #[.agg cs0.toArray] w fun x w'=>x=.returned (.bool (r))∧Hp Z0 No w w' []:=by
 have hm0:=Hp.nil Z0 No w;have hc0:=Calm.nil;obtain ⟨Ar1,cr1,Ar3,cr3,Ar5,cr5,rfl,fs1,fs3,fs5⟩:=zA6.relE h0;obtain ⟨hm7,hc0⟩:=hm0.kn (r:=slR Ar1 cr1 zA.rep x0.Attrs) hc0 fs1;obtain ⟨hm8,hc0⟩:=hm7.kn (r:=slR Ar3 cr3 zAq x0.Hist.Pos.Counts) hc0 fs3;obtain ⟨hm9,hc0⟩:=hm8.kn (r:=slR Ar5 cr5 zAq x0.Hist.Neg.Counts) hc0 fs5;refine Rn.en func108 ?_;refine gg 2 rfl (Rn.box rfl rfl rfl rfl rfl ?_);intro b10 w10 hb10 m10 e10;have hm12:=(hm9.addBox hb10 e10 m10).nf [_,_,_,zAh _ _ [_,_,_,_,_,_,_,_,_,_,_,_,_,_,_,_,_]] rfl;refine gg 5 rfl (Rn.q rfl (V.ldB isAgg3 rfl (hm12.get 3 rfl) rfl) (gg 2 rfl ?_));refine Rn.cutR [8] [(10,.bool (decide ((x0.Kind=1)∨(x0.Kind=2))))] (fun hk13=>?_) ?_
 ·refine Rn.partD (t:=6) rfl (fun h14=>?_) (fun h14=>?_)
  ·refine gg 4 rfl ?_;exact hk13 _ sA
  refine gg 1 rfl (Rn.q rfl (V.ldB isAgg3 rfl (hm12.get 3 rfl) rfl) (gg 2 rfl ?_));exact hk13 _ sA
 refine gg 2 rfl ?_
 cases hM
 exact Rn.R1 func108 ⟨rfl,hm12.pk []⟩
theorem zN9 {x0:zA6} {r:Bool} (hM:zIn x0=some r) (h0:zA6.rep.rel Z0 w cs0 x0) :
 Calls prog 109 #[.agg cs0.toArray] w fun x w'=>x=.returned (.bool (r))∧Hp Z0 No w w' []:=by
 have hm0:=Hp.nil Z0 No w;have hc0:=Calm.nil;obtain ⟨Ar1,cr1,Ar3,cr3,Ar5,cr5,rfl,fs1,fs3,fs5⟩:=zA6.relE h0;obtain ⟨hm7,hc0⟩:=hm0.kn (r:=slR Ar1 cr1 zA.rep x0.Attrs) hc0 fs1;obtain ⟨hm8,hc0⟩:=hm7.kn (r:=slR Ar3 cr3 zAq x0.Hist.Pos.Counts) hc0 fs3;obtain ⟨hm9,hc0⟩:=hm8.kn (r:=slR Ar5 cr5 zAq x0.Hist.Neg.Counts) hc0 fs5;refine Rn.en func109 ?_;refine gg 2 rfl (Rn.box rfl rfl rfl rfl rfl ?_);intro b10 w10 hb10 m10 e10;have hm12:=(hm9.addBox hb10 e10 m10).nf [_,_,_,zAh _ _ [_,_,_,_,_,_,_,_,_,_,_,_,_,_,_,_,_]] rfl;refine gg 6 rfl (Rn.q rfl (V.ldB isAgg3 rfl (hm12.get 3 rfl) rfl) (gg 2 rfl ?_));refine Rn.cutR [] [(1,pt b10 0),(10,.bool (decide ((x0.Start<0)∨(x0.Time>4503599627370496))))] (fun hk13=>?_) ?_
 ·refine Rn.partD (t:=6) rfl (fun h14=>?_) (fun h14=>?_)
  ·refine gg 4 rfl ?_;exact hk13 _ sA
  refine gg 1 rfl (Rn.q rfl (V.ldB isAgg3 rfl (hm12.get 3 rfl) rfl) (gg 2 rfl ?_));exact hk13 _ sA
 refine gg 1 rfl ?_;refine aD hM (fun h15 hM=>?_) (fun h15 hM=>?_)
 ·refine gg 4 rfl ?_
  cases hM
  exact Rn.R1 func109 ⟨rfl,hm12.pk []⟩
 refine gg 5 rfl (Rn.q rfl (V.ldB isAgg3 rfl (hm12.get 3 rfl) rfl) (gg 2 rfl ?_));refine aD hM (fun h16 hM=>?_) (fun h16 hM=>?_)
 ·refine gg 3 rfl (Rn.q rfl (V.ldB isAgg3 rfl (hm12.get 3 rfl) rfl) (gg 1 rfl (Rn.q rfl (V.ldB isAgg3 rfl (hm12.get 3 rfl) rfl) (gg 3 rfl ?_))))
  cases hM
  exact Rn.R1 func109 ⟨rfl,hm12.pk []⟩
 refine gg 4 rfl (Rn.q rfl (V.ldB isAgg3 rfl (hm12.get 3 rfl) rfl) (gg 1 rfl (Rn.q rfl (V.ldB isAgg3 rfl (hm12.get 3 rfl) rfl) (gg 3 rfl ?_))))
 cases hM
 exact Rn.R1 func109 ⟨rfl,hm12.pk []⟩
theorem zNy {x0:zA3} {r:Bool} (hM:zJo x0=some r) (h0:zA3.rep.rel Z0 w cs0 x0) :
 Calls prog 166 #[.agg cs0.toArray] w fun x w'=>x=.returned (.bool (r))∧Hp Z0 No w w' []:=by
 have hm0:=Hp.nil Z0 No w;have hc0:=Calm.nil;obtain ⟨Ar1,cr1,Ar3,cr3,rfl,fs1,fs3⟩:=zA3.relE h0;obtain ⟨hm5,hc0⟩:=hm0.kn (r:=slR Ar1 cr1 zAq x0.Pos.Counts) hc0 fs1;obtain ⟨hm6,hc0⟩:=hm5.kn (r:=slR Ar3 cr3 zAq x0.Neg.Counts) hc0 fs3;refine Rn.en func166 ?_;refine gg 2 rfl (Rn.box rfl rfl rfl rfl rfl ?_);intro b7 w7 hb7 m7 e7;have hm9:=(hm6.addBox hb7 e7 m7).nf [_,_,zAh _ _ [_,_,_,_,_,_]] rfl;refine gg 5 rfl (Rn.q rfl (V.ldB isAgg3 rfl (hm9.get 2 rfl) rfl) (gg 2 rfl ?_));refine Rn.cutR [8,9,10,11,12,13,14,15,16,17,18,19,20,21,22,23,24,25,26,27,28,29,30,31,32] [(1,pt b7 0),(10,.bool (decide ((x0.Scale=0)∧(((x0.Zero).toNat:Int)=0))))] (fun hk10=>?_) ?_
 ·refine Rn.partD (t:=6) rfl (fun h11=>?_) (fun h11=>?_)
  ·refine gg 1 rfl (Rn.q rfl (V.ldB isAgg35 rfl (hm9.get 2 rfl) rfl) (Rn.q rfl (V.eql rfl rfl) (gg 1 rfl ?_)));exact hk10 _ sA
  refine gg 4 rfl ?_;exact hk10 _ sA
 refine gg 1 rfl ?_;refine Rn.cutR [14,15,16,17,18,19,20,21,22,23,24,25,26,27,28,29,30,31,32] [(1,pt b7 0),(16,.bool (decide (((x0.Scale=0)∧(((x0.Zero).toNat:Int)=0))∧(x0.Pos.Offset=0))))] (fun hk12=>?_) ?_
 ·refine Rn.partD (t:=11) rfl (fun h13=>?_) (fun h13=>?_)
  ·refine gg 2 rfl (Rn.q rfl (V.ldB isAgg3 rfl (hm9.get 2 rfl) rfl) (gg 2 rfl ?_));exact hk12 _ sA
  refine gg 5 rfl ?_;exact hk12 _ sA
 refine gg 1 rfl ?_;refine Rn.cutR [20,21,22,23,24,25,26,27,28,29,30,31,32] [(1,pt b7 0),(22,.bool (decide ((((x0.Scale=0)∧(((x0.Zero).toNat:Int)=0))∧(x0.Pos.Offset=0))∧(x0.Neg.Offset=0))))] (fun hk14=>?_) ?_
 ·refine Rn.partD (t:=17) rfl (fun h15=>?_) (fun h15=>?_)
  ·refine gg 2 rfl (Rn.q rfl (V.ldB isAgg3 rfl (hm9.get 2 rfl) rfl) (gg 2 rfl ?_));exact hk14 _ sA
  refine gg 5 rfl ?_;exact hk14 _ sA
 refine gg 1 rfl ?_;refine Rn.jR hm0 hM (G:=Bool) [32] (fun g=>[(34,.bool (g))]) (fun g=>[slR Ar1 cr1 zAq x0.Pos.Counts,slR Ar3 cr3 zAq x0.Neg.Counts,zAh b7 40 [iv x0.Scale,zAl x0.Zero,iv x0.Pos.Offset,.slice Ar1 (x0.Pos.Counts).length cr1,iv x0.Neg.Offset,.slice Ar3 (x0.Neg.Counts).length cr3]]) (fun j g=>j g) ?_ ?_
 ·rintro y16 w17 hm17 hM
  try dsimp only at hM
  refine gg 2 rfl ?_
  cases hM
  exact Rn.R1 func166 ⟨rfl,hm17.pk []⟩
 intro j1 hM hk1;refine zIu hM (Rn.partD (t:=23) rfl) (fun h18 hM=>?_) (fun h18 hM=>?_)
 ·refine gg 2 rfl (Rn.q rfl (V.ldB isAgg36 rfl (hm9.get 2 rfl) rfl) (Rn.q rfl (V.lenV underlying36 rfl) (gg 2 rfl (Rn.q rfl (V.ldB isAgg36 rfl (hm9.get 2 rfl) rfl) (Rn.q rfl (V.lenV underlying36 rfl) (gg 3 rfl ?_))))));exact hk1 (decide (W64 ((x0.Pos.Counts.length:Int)+(x0.Neg.Counts.length:Int))=0)) _ _ sA (hm9.pk [0,1,2]) hM
 refine gg 11 rfl ?_;exact hk1 false _ _ sA (hm9.pk [0,1,2]) hM
theorem zP {x0:zA6} {r:Bool} (hM:zKg x0=some r) (h0:zA6.rep.rel Z0 w cs0 x0) :
 Calls prog 110 #[.agg cs0.toArray] w fun x w'=>x=.returned (.bool (r))∧Hp Z0 No w w' []:=by
 have hm0:=Hp.nil Z0 No w;have hc0:=Calm.nil;obtain ⟨Ar1,cr1,Ar3,cr3,Ar5,cr5,rfl,fs1,fs3,fs5⟩:=zA6.relE h0;obtain ⟨hm7,hc0⟩:=hm0.kn (r:=slR Ar1 cr1 zA.rep x0.Attrs) hc0 fs1;obtain ⟨hm8,hc0⟩:=hm7.kn (r:=slR Ar3 cr3 zAq x0.Hist.Pos.Counts) hc0 fs3;obtain ⟨hm9,hc0⟩:=hm8.kn (r:=slR Ar5 cr5 zAq x0.Hist.Neg.Counts) hc0 fs5;refine Rn.en func110 ?_;refine gg 2 rfl (Rn.box rfl rfl rfl rfl rfl ?_);intro b10 w10 hb10 m10 e10;have hm12:=(hm9.addBox hb10 e10 m10).nf [_,_,_,zAh _ _ [_,_,_,_,_,_,_,_,_,_,_,_,_,_,_,_,_]] rfl;refine gg 5 rfl (Rn.q rfl (V.ldB isAgg3 rfl (hm12.get 3 rfl) rfl) (gg 2 rfl ?_));refine Rn.cutR [8,9,10,11,12,13] [(1,pt b10 0),(11,.bool (decide ((x0.Kind=2)∨(x0.Kind=3))))] (fun hk13=>?_) ?_
 ·refine Rn.partD (t:=7) rfl (fun h14=>?_) (fun h14=>?_)
  ·refine gg 4 rfl ?_;exact hk13 _ sA
  refine gg 1 rfl (Rn.q rfl (V.ldB isAgg3 rfl (hm12.get 3 rfl) rfl) (gg 2 rfl ?_));exact hk13 _ sA
 refine gg 1 rfl ?_;refine Rn.cutR [13] [(1,pt b10 0),(16,.bool (decide (((x0.Kind=2)∨(x0.Kind=3))∨(x0.Kind=5))))] (fun hk15=>?_) ?_
 ·refine Rn.partD (t:=12) rfl (fun h16=>?_) (fun h16=>?_)
  ·refine gg 4 rfl ?_;exact hk15 _ sA
  refine gg 1 rfl (Rn.q rfl (V.ldB isAgg3 rfl (hm12.get 3 rfl) rfl) (gg 2 rfl ?_));exact hk15 _ sA
 refine gg 8 rfl (Rn.q rfl (V.ldB isAgg3 rfl (hm12.get 3 rfl) rfl) (gg 2 rfl ?_));refine Rn.cutR [8] [(1,pt b10 0),(3,.bool (decide (((x0.Kind=2)∨(x0.Kind=3))∨(x0.Kind=5)))),(25,.bool (decide ((x0.Kind≠1)∧(x0.Int_≠0))))] (fun hk17=>?_) ?_
 ·refine Rn.partD (t:=21) rfl (fun h18=>?_) (fun h18=>?_)
  ·refine gg 1 rfl (Rn.q rfl (V.ldB isAgg3 rfl (hm12.get 3 rfl) rfl) (gg 2 rfl ?_));exact hk17 _ sA
  refine gg 4 rfl ?_;exact hk17 _ sA
 refine gg 2 rfl ?_;refine Rn.jG hm0 hM (G:=Bool) (fun g=>[(17,.bool (g))]) (fun g=>[slR Ar1 cr1 zA.rep x0.Attrs,slR Ar3 cr3 zAq x0.Hist.Pos.Counts,slR Ar5 cr5 zAq x0.Hist.Neg.Counts,zAh b10 42 [Str (x0.Name),.slice Ar1 (x0.Attrs).length cr1,iv x0.Kind,iv x0.Temp,.bool (x0.Mono),iv x0.Start,iv x0.Time,iv x0.Int_,zAl x0.Re,zAl x0.Im,iv x0.Hist.Scale,zAl x0.Hist.Zero,iv x0.Hist.Pos.Offset,.slice Ar3 (x0.Hist.Pos.Counts).length cr3,iv x0.Hist.Neg.Offset,.slice Ar5 (x0.Hist.Neg.Counts).length cr5,iv x0.Flags]]) (fun j g=>j g) ?_ ?_
 ·rintro y19 w20 hm20 hM
  try dsimp only at hM
  refine aS hM (fun h21 hM=>?_) (fun h21 hM=>?_)
  ·refine gg 4 rfl ?_
   cases hM
   exact Rn.R1 func110 ⟨rfl,hm20.pk []⟩
  refine gg 6 rfl ?_
  cases hM
  exact Rn.R1 func110 ⟨rfl,hm20.pk []⟩
 intro j1 hM hk1;refine aD hM (fun h22 hM=>?_) (fun h22 hM=>?_)
 ·refine gg 1 rfl ?_;exact hk1 (decide ((x0.Kind≠1)∧(x0.Int_≠0))) _ _ sA (hm12.pk [0,1,2,3]) hM
 refine gg 3 rfl (Rn.q rfl (V.notD rfl) (gg 1 rfl ?_));refine Rn.cutR [7] [(1,pt b10 0),(32,.bool (decide ((¬(((x0.Kind=2)∨(x0.Kind=3))∨(x0.Kind=5)))∧(((x0.Re).toNat:Int)≠0))))] (fun hk23=>?_) ?_
 ·refine Rn.partD (t:=28) rfl (fun h24=>?_) (fun h24=>?_)
  ·refine gg 1 rfl (Rn.q rfl (V.ldB isAgg35 rfl (hm12.get 3 rfl) rfl) (Rn.q rfl (V.neq rfl rfl) (gg 1 rfl ?_)));exact hk23 _ sA
  refine gg 4 rfl ?_;exact hk23 _ sA
 refine gg 2 rfl ?_;refine aD hM (fun h25 hM=>?_) (fun h25 hM=>?_)
 ·refine gg 1 rfl ?_;exact hk1 (decide ((¬(((x0.Kind=2)∨(x0.Kind=3))∨(x0.Kind=5)))∧(((x0.Re).toNat:Int)≠0))) _ _ sA (hm12.pk [0,1,2,3]) hM
 refine gg 3 rfl (Rn.q rfl (V.ldB isAgg3 rfl (hm12.get 3 rfl) rfl) (gg 2 rfl ?_));refine Rn.cutR [8] [(1,pt b10 0),(40,.bool (decide ((x0.Kind≠5)∧(((x0.Im).toNat:Int)≠0))))] (fun hk26=>?_) ?_
 ·refine Rn.partD (t:=36) rfl (fun h27=>?_) (fun h27=>?_)
  ·refine gg 1 rfl (Rn.q rfl (V.ldB isAgg35 rfl (hm12.get 3 rfl) rfl) (Rn.q rfl (V.neq rfl rfl) (gg 1 rfl ?_)));exact hk26 _ sA
  refine gg 4 rfl ?_;exact hk26 _ sA
 refine gg 2 rfl ?_;refine aD hM (fun h28 hM=>?_) (fun h28 hM=>?_)
 ·refine gg 1 rfl ?_;exact hk1 (decide ((x0.Kind≠5)∧(((x0.Im).toNat:Int)≠0))) _ _ sA (hm12.pk [0,1,2,3]) hM
 refine gg 3 rfl (Rn.q rfl (V.ldB isAgg3 rfl (hm12.get 3 rfl) rfl) (gg 2 rfl ?_));refine Rn.jR hm0 hM (G:=Bool) [9] (fun g=>[(1,pt b10 0),(49,.bool (g))]) (fun g=>[slR Ar1 cr1 zA.rep x0.Attrs,slR Ar3 cr3 zAq x0.Hist.Pos.Counts,slR Ar5 cr5 zAq x0.Hist.Neg.Counts,zAh b10 42 [Str (x0.Name),.slice Ar1 (x0.Attrs).length cr1,iv x0.Kind,iv x0.Temp,.bool (x0.Mono),iv x0.Start,iv x0.Time,iv x0.Int_,zAl x0.Re,zAl x0.Im,iv x0.Hist.Scale,zAl x0.Hist.Zero,iv x0.Hist.Pos.Offset,.slice Ar3 (x0.Hist.Pos.Counts).length cr3,iv x0.Hist.Neg.Offset,.slice Ar5 (x0.Hist.Neg.Counts).length cr5,iv x0.Flags]]) (fun j g=>j g) ?_ ?_
 ·rintro y29 w30 hm30 hM
  try dsimp only at hM
  refine gg 2 rfl ?_;refine aS hM (fun h31 hM=>?_) (fun h31 hM=>?_)
  ·refine gg 1 rfl ?_;exact hk1 y29 _ _ sA (hm30.pk [0,1,2,3]) hM
  refine gg 2 rfl (Rn.q rfl (V.ldB isAgg3 rfl (hm30.get 3 rfl) rfl) (gg 2 rfl ?_));refine Rn.cutR [8] [(57,.bool (decide ((x0.Flags<0)∨(x0.Flags>31))))] (fun hk32=>?_) ?_
  ·refine Rn.partD (t:=53) rfl (fun h33=>?_) (fun h33=>?_)
   ·refine gg 4 rfl ?_;exact hk32 _ sA
   refine gg 1 rfl (Rn.q rfl (V.ldB isAgg3 rfl (hm30.get 3 rfl) rfl) (gg 2 rfl ?_));exact hk32 _ sA
  refine gg 2 rfl ?_;exact hk1 (decide ((x0.Flags<0)∨(x0.Flags>31))) _ _ sA (hm30.pk [0,1,2,3]) hM
 intro j2 hM hk2;refine zIu hM (Rn.partD (t:=44) rfl) (fun h34 hM=>?_) (fun h34 hM=>?_)
 ·refine gg 1 rfl (Rn.q rfl (V.ldBA [_,_,_,_,_,_] isAgg40 sizeOf40 rfl (hm12.get 3 rfl) rfl rfl) ?_);obtain ⟨p35,e35,hM⟩:=zAb hM
  refine Rn.c0 (cK func166) (zNy (Z0:=All) e35 (show zA3.rep.rel All _ _ _ from ⟨_,_,rfl,⟨rfl,trivial⟩,⟨_,_,rfl,⟨rfl,trivial⟩,⟨_,_,rfl,⟨_,_,rfl,⟨rfl,trivial⟩,⟨_,_,rfl,(zA7 (hm12.get 1 rfl)).1,(zA7 (hm12.get 1 rfl)).2.1,(zA7 (hm12.get 1 rfl)).2.2⟩⟩,⟨_,_,rfl,⟨rfl,trivial⟩,⟨_,_,rfl,(zA7 (hm12.get 2 rfl)).1,(zA7 (hm12.get 2 rfl)).2.1,(zA7 (hm12.get 2 rfl)).2.2⟩⟩⟩⟩⟩) :) hm12 fun w35 _ hm36=>?_
  refine Rn.q rfl (V.notB rfl) (gg 1 rfl ?_);exact hk2 (!p35) _ _ sA (hm36.pk [0,1,2,3]) hM
 refine gg 5 rfl ?_;exact hk2 false _ _ sA (hm12.pk [0,1,2,3]) hM
theorem zNz {x0:UInt64} {r:Bool} (hM:zJp x0=some r)  :
 Calls prog 111 #[zAl x0] w fun x w'=>x=.returned (.bool (r))∧Hp Z0 No w w' []:=by
 have hm0:=Hp.nil Z0 No w;have hc0:=Calm.nil;refine Rn.en func111 ?_;refine gg 7 rfl (Rn.q rfl (V.o64 rfl rfl x0 (9218868437227405312:UInt64) rfl rfl (zPd _ _ _)) (Rn.q rfl (V.neq rfl rfl) (gg 2 rfl ?_)))
 cases hM
 exact Rn.R1 func111 ⟨rfl,hm0.pk []⟩
theorem zNq {x0:UInt64} {r:UInt64} (hM:zOe x0=some r)  :
 Calls prog 167 #[zAl x0] w fun x w'=>x=.returned (.float .f64 (r).toNat)∧Hp Z0 No w w' []:=by
 have hm0:=Hp.nil Z0 No w;have hc0:=Calm.nil;refine Rn.en func167 ?_;refine gg 7 rfl (Rn.q rfl (V.fltOf (a:=x0) func209 (by kernel_rfl) (by kernel_rfl) (by kernel_rfl) (by kernel_rfl) rfl) (gg 2 rfl ?_))
 cases hM
 exact Rn.R1 func167 ⟨rfl,hm0.pk []⟩
theorem zPn {x0:UInt64} {x1:UInt64} {r:Bool} (hM:zLp x0 x1=some r)  :
 Calls prog 112 #[zAl x0,zAl x1] w fun x w'=>x=.returned (.bool (r))∧Hp Z0 No w w' []:=by
 have hm0:=Hp.nil Z0 No w;have hc0:=Calm.nil;refine Rn.en func112 ?_;refine gg 7 rfl ?_;obtain ⟨p1,e1,hM⟩:=zAb hM
 refine Rn.c0 (cK func167) (zNq (Z0:=All) e1  :) hm0 fun w1 _ hm2=>?_
 refine gg 1 rfl ?_;obtain ⟨p3,e3,hM⟩:=zAb hM
 refine Rn.c0 (cK func167) (zNq (Z0:=All) e3  :) hm2 fun w3 _ hm4=>?_
 refine Rn.q rfl (V.lssF (a:=p1) (b:=p3) rfl rfl) (gg 2 rfl ?_)
 cases hM
 exact Rn.R1 func112 ⟨rfl,hm4.pk []⟩
theorem zKs {x0:zA3} {r:zG8} (hM:zIe x0=some r) (h0:zA3.rep.rel Z0 w cs0 x0) :
 Calls prog 168 #[.agg cs0.toArray] w fun x w'=>∃ A_0_0 c_0_0 A_0_1 c_0_1,x=.returned (.agg [iv r.a0.Offset,.slice A_0_0 (r.a0.Counts).length c_0_0,iv r.a1.Offset,.slice A_0_1 (r.a1.Counts).length c_0_1].toArray)∧Hp Z0 No w w' [slR A_0_0 c_0_0 zAq r.a0.Counts,slR A_0_1 c_0_1 zAq r.a1.Counts]:=by
 have hm0:=Hp.nil Z0 No w;have hc0:=Calm.nil;obtain ⟨Ar1,cr1,Ar3,cr3,rfl,fs1,fs3⟩:=zA3.relE h0;obtain ⟨hm5,hc0⟩:=hm0.kn (r:=slR Ar1 cr1 zAq x0.Pos.Counts) hc0 fs1;obtain ⟨hm6,hc0⟩:=hm5.kn (r:=slR Ar3 cr3 zAq x0.Neg.Counts) hc0 fs3;refine Rn.en func168 ?_;refine gg 2 rfl (Rn.box rfl rfl rfl rfl rfl ?_);intro b7 w7 hb7 m7 e7;have hm9:=(hm6.addBox hb7 e7 m7).nf [_,_,zAh _ _ [_,_,_,_,_,_]] rfl;refine Rn.alloc rfl rfl rfl Tryz.zeroValue222 rfl ?_;intro b10 w10 hb10 m10 e10;have hm12:=(hm9.addBox hb10 e10 m10).nf [_,_,_,zAh _ _ [_,_,_,_]] rfl;refine gg 4 rfl (Rn.q rfl (V.ldBA [_,_] isAgg38 sizeOf38 rfl (hm12.get 2 rfl) rfl rfl) (gg 1 rfl (Rn.q rfl (V.ldBA [_,_] isAgg38 sizeOf38 rfl (hm12.get 2 rfl) rfl rfl) (Rn.q rfl (V.bldA (cs:=[_,_,_,_]) _ zb9 (zN7 2 2) rfl rfl) (Rn.sq rfl sizeOf222 rfl rfl (hm12.get 3 rfl) ?_)))));intro w13 m13 x13;have hm14:=(hm12.st 3 rfl x13 m13).nf [_,_,_,zAh _ _ [_,_,_,_]] rfl;refine gg 1 rfl ?_;refine Rn.retG1 func168 rfl (rvC rfl isAgg222 sizeOf222 (hm14.get 3 rfl) rfl) ?_;obtain rfl:=zDt hM;exact ⟨Ar1,cr1,Ar3,cr3,rfl,hm14.pk [0,1]⟩
theorem zO1 {x0:zA9} {r:Int} (hM:zJr x0=some r) (h0:zA9.rep.rel Z0 w cs0 x0) :
 Calls prog 169 #[.agg cs0.toArray] w fun x w'=>x=.returned (iv r)∧Hp Z0 No w w' []:=by
 have hm0:=Hp.nil Z0 No w;have hc0:=Calm.nil;obtain ⟨Ar1,cr1,rfl,fs1⟩:=zA9.relE h0;obtain ⟨hm3,hc0⟩:=hm0.kn (r:=slR Ar1 cr1 zAq x0.Counts) hc0 fs1;refine Rn.en func169 ?_;refine gg 2 rfl (Rn.box rfl rfl rfl rfl rfl ?_);intro b4 w4 hb4 m4 e4;have hm6:=(hm3.addBox hb4 e4 m4).nf [_,zAh _ _ [_,_]] rfl;refine gg 5 rfl (Rn.q rfl (V.ldB isAgg36 rfl (hm6.get 1 rfl) rfl) (Rn.q rfl (V.lenV underlying36 rfl) (gg 10 rfl ?_)));refine aD hM (fun h7 hM=>?_) (fun h7 hM=>?_)
 ·refine gg 4 rfl ?_
  cases hM
  exact Rn.R1 func169 ⟨rfl,hm6.pk []⟩
 refine gg 5 rfl ?_;refine Rn.cutR [7] [(1,pt b4 0),(3,iv (x0.Counts.length:Int)),(17,.bool (decide (((x0.Counts.length:Int)=0)∧(x0.Offset≠0))))] (fun hk8=>?_) ?_
 ·refine Rn.partD (t:=13) rfl (fun h9=>?_) (fun h9=>?_)
  ·refine gg 1 rfl (Rn.q rfl (V.ldB isAgg3 rfl (hm6.get 1 rfl) rfl) (gg 2 rfl ?_));exact hk8 _ sA
  refine gg 4 rfl ?_;exact hk8 _ sA
 refine gg 2 rfl ?_;refine aD hM (fun h10 hM=>?_) (fun h10 hM=>?_)
 ·refine gg 4 rfl ?_
  cases hM
  exact Rn.R1 func169 ⟨rfl,hm6.pk []⟩
 refine gg 6 rfl ?_;refine aD hM (fun h11 hM=>?_) (fun h11 hM=>?_)
 ·refine gg 4 rfl ?_
  cases hM
  exact Rn.R1 func169 ⟨rfl,hm6.pk []⟩
 refine gg 3 rfl (Rn.q rfl (V.ldB isAgg36 rfl (hm6.get 1 rfl) rfl) ?_);obtain ⟨z12,e12,hM⟩:=zAb hM;refine Rn.ixH hm6 0 rfl e12 rfl rfl rfl underlying36 sizeOf35 rfl rfl rfl rfl ?_;rintro b12 o12 vs12 ⟨rfl,_⟩ hm12;refine Rn.q rfl (V.ldR0 isAgg35 rfl (hm12.get 2 rfl).2 rfl) (Rn.q rfl (V.eql rfl rfl) (gg 1 rfl ?_));refine Rn.jR hm0 hM (G:=Bool) [14] (fun g=>[(1,pt b4 0),(3,iv (x0.Counts.length:Int)),(35,.bool (g))]) (fun g=>[slR Ar1 cr1 zAq x0.Counts,zAh b4 38 [iv x0.Offset,.slice Ar1 (x0.Counts).length cr1]]) (fun j g=>j g) ?_ ?_
 ·rintro y14 w15 hm15 hM
  try dsimp only at hM
  refine gg 2 rfl ?_;refine aS hM (fun h16 hM=>?_) (fun h16 hM=>?_)
  ·refine gg 4 rfl ?_
   cases hM
   exact Rn.R1 func169 ⟨rfl,hm15.pk []⟩
  refine gg 3 rfl (Rn.q rfl (V.ldB isAgg3 rfl (hm15.get 1 rfl) rfl) (gg 2 rfl ?_));refine Rn.jR hm0 hM (G:=Bool) [11] (fun g=>[(47,.bool (g))]) (fun g=>[slR Ar1 cr1 zAq x0.Counts,zAh b4 38 [iv x0.Offset,.slice Ar1 (x0.Counts).length cr1]]) (fun j g=>j g) ?_ ?_
  ·rintro y17 w18 hm18 hM
   try dsimp only at hM
   refine gg 2 rfl ?_;refine aS hM (fun h19 hM=>?_) (fun h19 hM=>?_)
   ·refine gg 4 rfl ?_
    cases hM
    exact Rn.R1 func169 ⟨rfl,hm18.pk []⟩
   refine gg 6 rfl ?_
   cases hM
   exact Rn.R1 func169 ⟨rfl,hm18.pk []⟩
  intro j2 hM hk2;refine zIu hM (Rn.partD (t:=40) rfl) (fun h20 hM=>?_) (fun h20 hM=>?_)
  ·refine gg 7 rfl ?_;exact hk2 true _ _ sA (hm15.pk [0,1]) hM
  refine gg 1 rfl (Rn.q rfl (V.ldB isAgg3 rfl (hm15.get 1 rfl) rfl) (gg 5 rfl ?_));exact hk2 (decide (x0.Offset>W64 (1073741824-(W64 ((x0.Counts.length:Int)-1))))) _ _ sA (hm15.pk [0,1]) hM
 intro j1 hM hk1;refine zIu hM (Rn.partD (t:=27) rfl) (fun h21 hM=>?_) (fun h21 hM=>?_)
 ·refine gg 8 rfl ?_;exact hk1 true _ _ sA (hm12.pk [0,1]) hM
 refine gg 1 rfl (Rn.q rfl (V.ldB isAgg36 rfl (hm12.get 1 rfl) rfl) (gg 2 rfl ?_));obtain ⟨z22,e22,hM⟩:=zAb hM;refine Rn.ixH hm12 0 rfl e22 rfl rfl rfl underlying36 sizeOf35 rfl rfl rfl rfl ?_;rintro b22 o22 vs22 ⟨rfl,_⟩ hm22;refine Rn.q rfl (V.ldR0 isAgg35 rfl (hm22.get 3 rfl).2 rfl) (Rn.q rfl (V.eql rfl rfl) (gg 1 rfl ?_));exact hk1 (decide (((z22).toNat:Int)=0)) _ _ sA (hm22.pk [0,1]) hM
theorem zO2 {x0:zA3} {r:(UInt64×Bool)} (hM:zJs x0=some r) (h0:zA3.rep.rel Z0 w cs0 x0) :
 Calls prog 170 #[.agg cs0.toArray] w fun x w'=>x=.returned (.tuple #[zAl r.1,.bool (r.2)])∧Hp Z0 No w w' []:=by
 have hm0:=Hp.nil Z0 No w;have hc0:=Calm.nil;obtain ⟨Ar1,cr1,Ar3,cr3,rfl,fs1,fs3⟩:=zA3.relE h0;obtain ⟨hm5,hc0⟩:=hm0.kn (r:=slR Ar1 cr1 zAq x0.Pos.Counts) hc0 fs1;obtain ⟨hm6,hc0⟩:=hm5.kn (r:=slR Ar3 cr3 zAq x0.Neg.Counts) hc0 fs3;refine Rn.en func170 ?_;refine gg 2 rfl (Rn.box rfl rfl rfl rfl rfl ?_);intro b7 w7 hb7 m7 e7;have hm9:=(hm6.addBox hb7 e7 m7).nf [_,_,zAh _ _ [_,_,_,_,_,_]] rfl;refine gg 6 rfl (Rn.q rfl (V.ldB isAgg35 rfl (hm9.get 2 rfl) rfl) (gg 6 rfl (Rn.q rfl (V.ldBA [_,_,_,_,_,_] isAgg40 sizeOf40 rfl (hm9.get 2 rfl) rfl rfl) ?_)));obtain ⟨p10,e10,hM⟩:=zAb hM;refine Rn.cq (cK func168) (zKs (Z0:=hm9.Z) e10 (show zA3.rep.rel _ _ _ _ from ⟨_,_,rfl,⟨rfl,trivial⟩,⟨_,_,rfl,⟨rfl,trivial⟩,⟨_,_,rfl,⟨_,_,rfl,⟨rfl,trivial⟩,⟨_,_,rfl,(hm9.get 0 rfl).1,(hm9.get 0 rfl).2.1,(hm9.get 0 rfl).2.2⟩⟩,⟨_,_,rfl,⟨rfl,trivial⟩,⟨_,_,rfl,(hm9.get 1 rfl).1,(hm9.get 1 rfl).2.1,(hm9.get 1 rfl).2.2⟩⟩⟩⟩⟩) :) ?_;rintro _ w10 ⟨A10_0_0,c10_0_0,A10_0_1,c10_0_1,rfl,hq10⟩;refine ⟨_,rfl,?_⟩;have hm13:=hm9.callZ hq10;refine gg 2 rfl ?_;refine Rn.jG hm0 hM (G:=UInt64×UInt64) (fun g=>[(4,zAl (g.1)),(5,zAl (g.2))]) (fun g=>[slR Ar1 cr1 zAq x0.Pos.Counts,slR Ar3 cr3 zAq x0.Neg.Counts,zAh b7 40 [iv x0.Scale,zAl x0.Zero,iv x0.Pos.Offset,.slice Ar1 (x0.Pos.Counts).length cr1,iv x0.Neg.Offset,.slice Ar3 (x0.Neg.Counts).length cr3]]) (fun j g=>j g.1 g.2) ?_ ?_
 ·rintro ⟨y14,y15⟩ w16 hm16 hM
  try dsimp only at hM
  refine gg 4 rfl (Rn.q rfl (V.neq rfl rfl) (gg 1 rfl ?_));refine aD hM (fun h17 hM=>?_) (fun h17 hM=>?_)
  ·refine gg 5 rfl ?_
   cases hM
   exact Rn.R2 func170 ⟨rfl,hm16.pk []⟩
  refine gg 7 rfl ?_
  cases hM
  exact Rn.R2 func170 ⟨rfl,hm16.pk []⟩
 intro j1 hM hk1;refine gg 1 rfl ?_;refine Rn.loopF (G:=UInt64×UInt64×Int) (fun g=>[(4,zAl (g.1)),(5,zAl (g.2.1)),(14,.agg [iv p10.a0.Offset,.slice A10_0_0 (p10.a0.Counts).length c10_0_0,iv p10.a1.Offset,.slice A10_0_1 (p10.a1.Counts).length c10_0_1].toArray),(15,iv (g.2.2))]) (fun g w'=>Hp Z0 No w w' [slR Ar1 cr1 zAq x0.Pos.Counts,slR Ar3 cr3 zAq x0.Neg.Counts,zAh b7 40 [iv x0.Scale,zAl x0.Zero,iv x0.Pos.Offset,.slice Ar1 (x0.Pos.Counts).length cr1,iv x0.Neg.Offset,.slice Ar3 (x0.Neg.Counts).length cr3],slR A10_0_0 c10_0_0 zAq p10.a0.Counts,slR A10_0_1 c10_0_1 zAq p10.a1.Counts]) (fun n g=>zCz p10 j1 n g.1 g.2.1 g.2.2) fuel (x0.Zero,(0:UInt64),0) sA (hm13.pk [0,1,2,3,4]) hM (fun _=>rfl) ?_;clear hM;rintro m21 ⟨y18,y19,y20⟩ w21 hm21 hM hn21;replace hM:zCz p10 j1 (m21+1) y18 y19 y20=some r:=hM;rw [zCz] at hM;refine gg 5 rfl ?_;refine aD hM (fun h22 hM=>?_) (fun h22 hM=>?_)
 ·refine gg 5 rfl ?_;obtain ⟨z23,e23,hM⟩:=zAb hM;obtain ⟨A24,c24,hm24,hq24⟩:=Hp.idx2 (fun x:zA9=>x.Counts) e23 hm21 3 4 rfl rfl;refine Rn.q rfl (V.arE (v:=.agg [iv z23.Offset,.slice A24 (z23.Counts).length c24].toArray) zb9 isAgg38 rfl rfl (zNs e23 rfl) (by rcases hq24 with ⟨g1,g2,g3,g4⟩|⟨g1,g2,g3,g4⟩<;>first|(simp only [g1,g2,g3,g4];rfl)|(exfalso;omega))) (Rn.als rfl rfl rfl Tryz.zeroValue38 rfl sizeOf38 rfl rfl rfl rfl (by first|exact zJg rfl|(simp [Value.oneCell'];done)) ?_);intro b26 w26 hb26 m26 e26;have hm28:=(hm24.addBox hb26 e26 m26).nf [_,_,_,_,_,_,zAh _ _ [_,_]] rfl;refine gg 4 rfl (Rn.q rfl (V.ldB isAgg36 rfl (hm28.get 6 rfl) rfl) (Rn.q rfl (V.lenV underlying36 rfl) (gg 2 rfl ?_)));refine Rn.jG hm0 hM (G:=UInt64×UInt64) (fun g=>[(4,zAl (g.1)),(5,zAl (g.2)),(14,.agg [iv p10.a0.Offset,.slice A10_0_0 (p10.a0.Counts).length c10_0_0,iv p10.a1.Offset,.slice A10_0_1 (p10.a1.Counts).length c10_0_1].toArray),(15,iv y20)]) (fun g=>[slR Ar1 cr1 zAq x0.Pos.Counts,slR Ar3 cr3 zAq x0.Neg.Counts,zAh b7 40 [iv x0.Scale,zAl x0.Zero,iv x0.Pos.Offset,.slice Ar1 (x0.Pos.Counts).length cr1,iv x0.Neg.Offset,.slice Ar3 (x0.Neg.Counts).length cr3],slR A10_0_0 c10_0_0 zAq p10.a0.Counts,slR A10_0_1 c10_0_1 zAq p10.a1.Counts,slR A24 c24 zAq z23.Counts,zAh b26 38 [iv z23.Offset,.slice A24 (z23.Counts).length c24]]) (fun j g=>j g.1 g.2) ?_ ?_
  ·rintro ⟨y29,y30⟩ w31 hm31 hM
   try dsimp only at hM
   refine gg 5 rfl ?_;exact hn21 (y29,y30,(W64 (y20+1))) _ _ sA (hm31.pk [0,1,2,3,4]) hM
  intro j2 hM hk2;refine gg 1 rfl ?_;refine Rn.loopF (G:=UInt64×UInt64×Int) (fun g=>[(4,zAl (g.1)),(5,zAl (g.2.1)),(14,.agg [iv p10.a0.Offset,.slice A10_0_0 (p10.a0.Counts).length c10_0_0,iv p10.a1.Offset,.slice A10_0_1 (p10.a1.Counts).length c10_0_1].toArray),(15,iv y20),(19,.slice A24 (z23.Counts).length c24),(20,iv (z23.Counts.length:Int)),(21,iv (g.2.2))]) (fun g w'=>Hp Z0 No w w' [slR Ar1 cr1 zAq x0.Pos.Counts,slR Ar3 cr3 zAq x0.Neg.Counts,zAh b7 40 [iv x0.Scale,zAl x0.Zero,iv x0.Pos.Offset,.slice Ar1 (x0.Pos.Counts).length cr1,iv x0.Neg.Offset,.slice Ar3 (x0.Neg.Counts).length cr3],slR A10_0_0 c10_0_0 zAq p10.a0.Counts,slR A10_0_1 c10_0_1 zAq p10.a1.Counts,slR A24 c24 zAq z23.Counts,zAh b26 38 [iv z23.Offset,.slice A24 (z23.Counts).length c24]]) (fun n g=>zCd z23 j2 n g.1 g.2.1 g.2.2) fuel (y18,y19,0) sA (hm28.pk [0,1,2,3,4,5,6]) hM (fun _=>rfl) ?_;clear hM;rintro m35 ⟨y32,y33,y34⟩ w35 hm35 hM hn35;replace hM:zCd z23 j2 (m35+1) y32 y33 y34=some r:=hM;rw [zCd] at hM;refine gg 5 rfl ?_;refine aD hM (fun h36 hM=>?_) (fun h36 hM=>?_)
  ·refine gg 5 rfl ?_;obtain ⟨z37,e37,hM⟩:=zAb hM;refine Rn.ixH hm35 5 rfl e37 rfl rfl rfl underlying36 sizeOf35 rfl rfl rfl rfl ?_;rintro b37 o37 vs37 ⟨rfl,_⟩ hm37;refine Rn.q rfl (V.ldR0 isAgg35 rfl (hm37.get 7 rfl).2 rfl) (gg 10 rfl (Rn.q rfl (V.add64 (a:=y32) (b:=z37) func210 (by kernel_rfl) (by kernel_rfl) (by kernel_rfl) (by kernel_rfl) rfl) (gg 9 rfl (Rn.q rfl (V.o64 rfl rfl y33 (cry y32 z37) rfl rfl (zTt _ _ _)) (gg 7 rfl ?_)))));exact hn35 ((y32+z37),(y33|||(cry y32 z37)),(W64 (y34+1))) _ _ sA (hm37.pk [0,1,2,3,4,5,6]) hM
  refine gg 1 rfl ?_;exact hk2 (y32,y33) _ _ sA (hm35.pk [0,1,2,3,4,5,6]) hM
 refine gg 1 rfl ?_;exact hk1 (y18,y19) _ _ sA (hm21.pk [0,1,2]) hM
theorem zGw {x0:zA3} {r:Int} (hM:zFi x0=some r) (h0:zA3.rep.rel Z0 w cs0 x0) :
 Calls prog 113 #[.agg cs0.toArray] w fun x w'=>x=.returned (iv r)∧Hp Z0 No w w' []:=by
 have hm0:=Hp.nil Z0 No w;have hc0:=Calm.nil;obtain ⟨Ar1,cr1,Ar3,cr3,rfl,fs1,fs3⟩:=zA3.relE h0;obtain ⟨hm5,hc0⟩:=hm0.kn (r:=slR Ar1 cr1 zAq x0.Pos.Counts) hc0 fs1;obtain ⟨hm6,hc0⟩:=hm5.kn (r:=slR Ar3 cr3 zAq x0.Neg.Counts) hc0 fs3;refine Rn.en func113 ?_;refine gg 2 rfl (Rn.box rfl rfl rfl rfl rfl ?_);intro b7 w7 hb7 m7 e7;have hm9:=(hm6.addBox hb7 e7 m7).nf [_,_,zAh _ _ [_,_,_,_,_,_]] rfl;refine gg 6 rfl (Rn.q rfl (V.ldB isAgg3 rfl (hm9.get 2 rfl) rfl) (gg 2 rfl ?_));refine Rn.cutR [] [(1,pt b7 0),(15,.bool (decide ((x0.Scale<(-10))∨(x0.Scale>20))))] (fun hk10=>?_) ?_
 ·refine Rn.partD (t:=11) rfl (fun h11=>?_) (fun h11=>?_)
  ·refine gg 4 rfl ?_;exact hk10 _ sA
  refine gg 1 rfl (Rn.q rfl (V.ldB isAgg3 rfl (hm9.get 2 rfl) rfl) (gg 2 rfl ?_));exact hk10 _ sA
 refine gg 1 rfl ?_;refine aD hM (fun h12 hM=>?_) (fun h12 hM=>?_)
 ·refine gg 4 rfl ?_
  cases hM
  exact Rn.R1 func113 ⟨rfl,hm9.pk []⟩
 refine gg 4 rfl (Rn.q rfl (V.ldBA [_,_,_,_,_,_] isAgg40 sizeOf40 rfl (hm9.get 2 rfl) rfl rfl) ?_);obtain ⟨p13,e13,hM⟩:=zAb hM;refine Rn.cq (cK func168) (zKs (Z0:=hm9.Z) e13 (show zA3.rep.rel _ _ _ _ from ⟨_,_,rfl,⟨rfl,trivial⟩,⟨_,_,rfl,⟨rfl,trivial⟩,⟨_,_,rfl,⟨_,_,rfl,⟨rfl,trivial⟩,⟨_,_,rfl,(hm9.get 0 rfl).1,(hm9.get 0 rfl).2.1,(hm9.get 0 rfl).2.2⟩⟩,⟨_,_,rfl,⟨rfl,trivial⟩,⟨_,_,rfl,(hm9.get 1 rfl).1,(hm9.get 1 rfl).2.1,(hm9.get 1 rfl).2.2⟩⟩⟩⟩⟩) :) ?_;rintro _ w13 ⟨A13_0_0,c13_0_0,A13_0_1,c13_0_1,rfl,hq13⟩;refine ⟨_,rfl,?_⟩;have hm16:=hm9.callZ hq13;refine gg 2 rfl ?_;refine Rn.jG hm0 hM (G:=Unit) (fun g=>[(1,pt b7 0)]) (fun g=>[slR Ar1 cr1 zAq x0.Pos.Counts,slR Ar3 cr3 zAq x0.Neg.Counts,zAh b7 40 [iv x0.Scale,zAl x0.Zero,iv x0.Pos.Offset,.slice Ar1 (x0.Pos.Counts).length cr1,iv x0.Neg.Offset,.slice Ar3 (x0.Neg.Counts).length cr3]]) (fun j g=>j ()) ?_ ?_
 ·rintro _ w17 hm17 hM
  try dsimp only at hM
  refine gg 3 rfl (Rn.q rfl (V.ldBA [_,_,_,_,_,_] isAgg40 sizeOf40 rfl (hm17.get 2 rfl) rfl rfl) ?_);obtain ⟨p18,e18,hM⟩:=zAb hM
  refine Rn.c0 (cK func170) (zO2 (Z0:=All) e18 (show zA3.rep.rel All _ _ _ from ⟨_,_,rfl,⟨rfl,trivial⟩,⟨_,_,rfl,⟨rfl,trivial⟩,⟨_,_,rfl,⟨_,_,rfl,⟨rfl,trivial⟩,⟨_,_,rfl,(zA7 (hm17.get 0 rfl)).1,(zA7 (hm17.get 0 rfl)).2.1,(zA7 (hm17.get 0 rfl)).2.2⟩⟩,⟨_,_,rfl,⟨rfl,trivial⟩,⟨_,_,rfl,(zA7 (hm17.get 1 rfl)).1,(zA7 (hm17.get 1 rfl)).2.1,(zA7 (hm17.get 1 rfl)).2.2⟩⟩⟩⟩⟩) :) hm17 fun w18 _ hm19=>?_
  refine gg 9 rfl (Rn.q rfl (V.notB rfl) (gg 1 rfl ?_));refine aS hM (fun h20 hM=>?_) (fun h20 hM=>?_)
  ·refine gg 4 rfl ?_
   cases hM
   exact Rn.R1 func113 ⟨rfl,hm19.pk []⟩
  refine gg 5 rfl ?_
  cases hM
  exact Rn.R1 func113 ⟨rfl,hm19.pk []⟩
 intro j1 hM hk1;refine gg 1 rfl ?_;refine Rn.loopF (G:=Int) (fun g=>[(1,pt b7 0),(17,.agg [iv p13.a0.Offset,.slice A13_0_0 (p13.a0.Counts).length c13_0_0,iv p13.a1.Offset,.slice A13_0_1 (p13.a1.Counts).length c13_0_1].toArray),(18,iv g)]) (fun g w'=>Hp Z0 No w w' [slR Ar1 cr1 zAq x0.Pos.Counts,slR Ar3 cr3 zAq x0.Neg.Counts,zAh b7 40 [iv x0.Scale,zAl x0.Zero,iv x0.Pos.Offset,.slice Ar1 (x0.Pos.Counts).length cr1,iv x0.Neg.Offset,.slice Ar3 (x0.Neg.Counts).length cr3],slR A13_0_0 c13_0_0 zAq p13.a0.Counts,slR A13_0_1 c13_0_1 zAq p13.a1.Counts]) (fun n g=>zDw p13 j1 n g) fuel 0 sA (hm16.pk [0,1,2,3,4]) hM (fun _=>rfl) ?_;clear hM;rintro m22 y21 w22 hm22 hM hn22;replace hM:zDw p13 j1 (m22+1) y21=some r:=hM;rw [zDw] at hM;refine gg 5 rfl ?_;refine aD hM (fun h23 hM=>?_) (fun h23 hM=>?_)
 ·refine gg 5 rfl ?_;obtain ⟨z24,e24,hM⟩:=zAb hM;obtain ⟨A25,c25,hm25,hq25⟩:=Hp.idx2 (fun x:zA9=>x.Counts) e24 hm22 3 4 rfl rfl;refine Rn.q rfl (V.arE (v:=.agg [iv z24.Offset,.slice A25 (z24.Counts).length c25].toArray) zb9 isAgg38 rfl rfl (zNs e24 rfl) (by rcases hq25 with ⟨g1,g2,g3,g4⟩|⟨g1,g2,g3,g4⟩<;>first|(simp only [g1,g2,g3,g4];rfl)|(exfalso;omega))) (Rn.als rfl rfl rfl Tryz.zeroValue38 rfl sizeOf38 rfl rfl rfl rfl (by first|exact zJg rfl|(simp [Value.oneCell'];done)) ?_);intro b27 w27 hb27 m27 e27;have hm29:=(hm25.addBox hb27 e27 m27).nf [_,_,_,_,_,_,zAh _ _ [_,_]] rfl;refine gg 3 rfl (Rn.q rfl (V.ldBA [_,_] isAgg38 sizeOf38 rfl (hm29.get 6 rfl) rfl rfl) ?_);obtain ⟨p30,e30,hM⟩:=zAb hM
  refine Rn.c0 (cK func169) (zO1 (Z0:=All) e30 (show zA9.rep.rel All _ _ _ from ⟨_,_,rfl,⟨rfl,trivial⟩,⟨_,_,rfl,(zA7 (hm29.get 5 rfl)).1,(zA7 (hm29.get 5 rfl)).2.1,(zA7 (hm29.get 5 rfl)).2.2⟩⟩) :) hm29 fun w30 _ hm31=>?_
  refine gg 7 rfl ?_;refine aD hM (fun h32 hM=>?_) (fun h32 hM=>?_)
  ·refine gg 5 rfl ?_
   cases hM
   exact Rn.R1 func113 ⟨rfl,hm31.pk []⟩
  refine gg 6 rfl ?_;exact hn22 (W64 (y21+1)) _ _ sA (hm31.pk [0,1,2,3,4]) hM
 refine gg 1 rfl ?_;exact hk1 () _ _ sA (hm22.pk [0,1,2]) hM
theorem zHp {x0:zA6} {r:Int} (hM:zDr x0=some r) (h0:zA6.rep.rel Z0 w cs0 x0) :
 Calls prog 57 #[.agg cs0.toArray] w fun x w'=>x=.returned (iv r)∧Hp Z0 No w w' []:=by
 have hm0:=Hp.nil Z0 No w;have hc0:=Calm.nil;obtain ⟨Ar1,cr1,Ar3,cr3,Ar5,cr5,rfl,fs1,fs3,fs5⟩:=zA6.relE h0;obtain ⟨hm7,hc0⟩:=hm0.kn (r:=slR Ar1 cr1 zA.rep x0.Attrs) hc0 fs1;obtain ⟨hm8,hc0⟩:=hm7.kn (r:=slR Ar3 cr3 zAq x0.Hist.Pos.Counts) hc0 fs3;obtain ⟨hm9,hc0⟩:=hm8.kn (r:=slR Ar5 cr5 zAq x0.Hist.Neg.Counts) hc0 fs5;refine Rn.en func57 ?_;refine gg 2 rfl (Rn.box rfl rfl rfl rfl rfl ?_);intro b10 w10 hb10 m10 e10;have hm12:=(hm9.addBox hb10 e10 m10).nf [_,_,_,zAh _ _ [_,_,_,_,_,_,_,_,_,_,_,_,_,_,_,_,_]] rfl;refine gg 6 rfl (Rn.q rfl (V.ldB isAgg9 rfl (hm12.get 3 rfl) rfl) (gg 1 rfl (Rn.q rfl (V.ldB isAgg34 rfl (hm12.get 3 rfl) rfl) ?_)));obtain ⟨p13,e13,hM⟩:=zAb hM
 refine Rn.c0 (cK func106) (zK3 (Z0:=All) e13 (zA7 (hm12.get 0 rfl)) :) hm12 fun w13 _ hm14=>?_
 refine gg 7 rfl ?_;refine aD hM (fun h15 hM=>?_) (fun h15 hM=>?_)
 ·refine gg 5 rfl ?_
  cases hM
  exact Rn.R1 func57 ⟨rfl,hm14.pk []⟩
 refine gg 5 rfl (Rn.q rfl (V.ldBA [_,_,_,_,_,_,_,_,_,_,_,_,_,_,_,_,_] isAgg42 sizeOf42 rfl (hm14.get 3 rfl) rfl rfl) ?_);obtain ⟨p16,e16,hM⟩:=zAb hM
 refine Rn.c0 (cK func107) (zNa (Z0:=All) e16 (show zA6.rep.rel All _ _ _ from ⟨_,_,rfl,⟨rfl,trivial⟩,⟨_,_,rfl,⟨_,_,rfl,(zA7 (hm14.get 0 rfl)).1,(zA7 (hm14.get 0 rfl)).2.1,(zA7 (hm14.get 0 rfl)).2.2⟩,⟨_,_,rfl,⟨rfl,trivial⟩,⟨_,_,rfl,⟨rfl,trivial⟩,⟨_,_,rfl,⟨rfl,trivial⟩,⟨_,_,rfl,⟨rfl,trivial⟩,⟨_,_,rfl,⟨rfl,trivial⟩,⟨_,_,rfl,⟨rfl,trivial⟩,⟨_,_,rfl,⟨rfl,trivial⟩,⟨_,_,rfl,⟨rfl,trivial⟩,⟨_,_,rfl,⟨_,_,rfl,⟨rfl,trivial⟩,⟨_,_,rfl,⟨rfl,trivial⟩,⟨_,_,rfl,⟨_,_,rfl,⟨rfl,trivial⟩,⟨_,_,rfl,(zA7 (hm14.get 1 rfl)).1,(zA7 (hm14.get 1 rfl)).2.1,(zA7 (hm14.get 1 rfl)).2.2⟩⟩,⟨_,_,rfl,⟨rfl,trivial⟩,⟨_,_,rfl,(zA7 (hm14.get 2 rfl)).1,(zA7 (hm14.get 2 rfl)).2.1,(zA7 (hm14.get 2 rfl)).2.2⟩⟩⟩⟩⟩,⟨rfl,trivial⟩⟩⟩⟩⟩⟩⟩⟩⟩⟩⟩⟩) :) hm14 fun w16 _ hm17=>?_
 refine Rn.q rfl (V.notB rfl) (gg 2 rfl ?_);refine aS hM (fun h18 hM=>?_) (fun h18 hM=>?_)
 ·refine gg 4 rfl ?_
  cases hM
  exact Rn.R1 func57 ⟨rfl,hm17.pk []⟩
 refine gg 4 rfl (Rn.q rfl (V.ldB isAgg4 rfl (hm17.get 3 rfl) rfl) (gg 1 rfl ?_));refine Rn.jR hm0 hM (G:=Bool) [7] (fun g=>[(1,pt b10 0),(23,.bool (g))]) (fun g=>[slR Ar1 cr1 zA.rep x0.Attrs,slR Ar3 cr3 zAq x0.Hist.Pos.Counts,slR Ar5 cr5 zAq x0.Hist.Neg.Counts,zAh b10 42 [Str (x0.Name),.slice Ar1 (x0.Attrs).length cr1,iv x0.Kind,iv x0.Temp,.bool (x0.Mono),iv x0.Start,iv x0.Time,iv x0.Int_,zAl x0.Re,zAl x0.Im,iv x0.Hist.Scale,zAl x0.Hist.Zero,iv x0.Hist.Pos.Offset,.slice Ar3 (x0.Hist.Pos.Counts).length cr3,iv x0.Hist.Neg.Offset,.slice Ar5 (x0.Hist.Neg.Counts).length cr5,iv x0.Flags]]) (fun j g=>j g) ?_ ?_
 ·rintro y19 w20 hm20 hM
  try dsimp only at hM
  refine gg 2 rfl ?_;refine Rn.jG hm0 hM (G:=Bool) (fun g=>[(1,pt b10 0),(16,.bool (g))]) (fun g=>[slR Ar1 cr1 zA.rep x0.Attrs,slR Ar3 cr3 zAq x0.Hist.Pos.Counts,slR Ar5 cr5 zAq x0.Hist.Neg.Counts,zAh b10 42 [Str (x0.Name),.slice Ar1 (x0.Attrs).length cr1,iv x0.Kind,iv x0.Temp,.bool (x0.Mono),iv x0.Start,iv x0.Time,iv x0.Int_,zAl x0.Re,zAl x0.Im,iv x0.Hist.Scale,zAl x0.Hist.Zero,iv x0.Hist.Pos.Offset,.slice Ar3 (x0.Hist.Pos.Counts).length cr3,iv x0.Hist.Neg.Offset,.slice Ar5 (x0.Hist.Neg.Counts).length cr5,iv x0.Flags]]) (fun j g=>j g) ?_ ?_
  ·rintro y21 w22 hm22 hM
   try dsimp only at hM
   refine aS hM (fun h23 hM=>?_) (fun h23 hM=>?_)
   ·refine gg 4 rfl ?_
    cases hM
    exact Rn.R1 func57 ⟨rfl,hm22.pk []⟩
   refine gg 2 rfl (Rn.q rfl (V.ldBA [_,_,_,_,_,_,_,_,_,_,_,_,_,_,_,_,_] isAgg42 sizeOf42 rfl (hm22.get 3 rfl) rfl rfl) ?_);obtain ⟨p24,e24,hM⟩:=zAb hM
   refine Rn.c0 (cK func110) (zP (Z0:=All) e24 (show zA6.rep.rel All _ _ _ from ⟨_,_,rfl,⟨rfl,trivial⟩,⟨_,_,rfl,⟨_,_,rfl,(zA7 (hm22.get 0 rfl)).1,(zA7 (hm22.get 0 rfl)).2.1,(zA7 (hm22.get 0 rfl)).2.2⟩,⟨_,_,rfl,⟨rfl,trivial⟩,⟨_,_,rfl,⟨rfl,trivial⟩,⟨_,_,rfl,⟨rfl,trivial⟩,⟨_,_,rfl,⟨rfl,trivial⟩,⟨_,_,rfl,⟨rfl,trivial⟩,⟨_,_,rfl,⟨rfl,trivial⟩,⟨_,_,rfl,⟨rfl,trivial⟩,⟨_,_,rfl,⟨rfl,trivial⟩,⟨_,_,rfl,⟨_,_,rfl,⟨rfl,trivial⟩,⟨_,_,rfl,⟨rfl,trivial⟩,⟨_,_,rfl,⟨_,_,rfl,⟨rfl,trivial⟩,⟨_,_,rfl,(zA7 (hm22.get 1 rfl)).1,(zA7 (hm22.get 1 rfl)).2.1,(zA7 (hm22.get 1 rfl)).2.2⟩⟩,⟨_,_,rfl,⟨rfl,trivial⟩,⟨_,_,rfl,(zA7 (hm22.get 2 rfl)).1,(zA7 (hm22.get 2 rfl)).2.1,(zA7 (hm22.get 2 rfl)).2.2⟩⟩⟩⟩⟩,⟨rfl,trivial⟩⟩⟩⟩⟩⟩⟩⟩⟩⟩⟩⟩) :) hm22 fun w24 _ hm25=>?_
   refine Rn.q rfl (V.notB rfl) (gg 2 rfl ?_);refine aS hM (fun h26 hM=>?_) (fun h26 hM=>?_)
   ·refine gg 4 rfl ?_
    cases hM
    exact Rn.R1 func57 ⟨rfl,hm25.pk []⟩
   refine gg 3 rfl (Rn.q rfl (V.ldB isAgg4 rfl (hm25.get 3 rfl) rfl) (gg 1 rfl ?_));refine Rn.cutR [7,8,9,10,11,12,13] [(1,pt b10 0),(38,.bool (decide ((x0.Mono=true)∧(x0.Kind=2))))] (fun hk27=>?_) ?_
   ·refine Rn.part (t:=34) rfl (fun h28=>?_) (fun h28=>?_)
    ·refine gg 1 rfl (Rn.q rfl (V.ldB isAgg3 rfl (hm25.get 3 rfl) rfl) (gg 2 rfl ?_));exact hk27 _ sA
    refine gg 4 rfl ?_;exact hk27 _ sA
   refine gg 1 rfl ?_;refine Rn.jR hm0 hM (G:=Bool) [13] (fun g=>[(1,pt b10 0),(44,.bool (g))]) (fun g=>[slR Ar1 cr1 zA.rep x0.Attrs,slR Ar3 cr3 zAq x0.Hist.Pos.Counts,slR Ar5 cr5 zAq x0.Hist.Neg.Counts,zAh b10 42 [Str (x0.Name),.slice Ar1 (x0.Attrs).length cr1,iv x0.Kind,iv x0.Temp,.bool (x0.Mono),iv x0.Start,iv x0.Time,iv x0.Int_,zAl x0.Re,zAl x0.Im,iv x0.Hist.Scale,zAl x0.Hist.Zero,iv x0.Hist.Pos.Offset,.slice Ar3 (x0.Hist.Pos.Counts).length cr3,iv x0.Hist.Neg.Offset,.slice Ar5 (x0.Hist.Neg.Counts).length cr5,iv x0.Flags]]) (fun j g=>j g) ?_ ?_
   ·rintro y29 w30 hm30 hM
    try dsimp only at hM
    refine gg 2 rfl ?_;refine aS hM (fun h31 hM=>?_) (fun h31 hM=>?_)
    ·refine gg 4 rfl ?_
     cases hM
     exact Rn.R1 func57 ⟨rfl,hm30.pk []⟩
    refine gg 3 rfl (Rn.q rfl (V.ldB isAgg4 rfl (hm30.get 3 rfl) rfl) (gg 1 rfl ?_));refine Rn.jR hm0 hM (G:=Bool) [12] (fun g=>[(1,pt b10 0),(57,.bool (g))]) (fun g=>[slR Ar1 cr1 zA.rep x0.Attrs,slR Ar3 cr3 zAq x0.Hist.Pos.Counts,slR Ar5 cr5 zAq x0.Hist.Neg.Counts,zAh b10 42 [Str (x0.Name),.slice Ar1 (x0.Attrs).length cr1,iv x0.Kind,iv x0.Temp,.bool (x0.Mono),iv x0.Start,iv x0.Time,iv x0.Int_,zAl x0.Re,zAl x0.Im,iv x0.Hist.Scale,zAl x0.Hist.Zero,iv x0.Hist.Pos.Offset,.slice Ar3 (x0.Hist.Pos.Counts).length cr3,iv x0.Hist.Neg.Offset,.slice Ar5 (x0.Hist.Neg.Counts).length cr5,iv x0.Flags]]) (fun j g=>j g) ?_ ?_
    ·rintro y32 w33 hm33 hM
     try dsimp only at hM
     refine gg 2 rfl ?_;refine aS hM (fun h34 hM=>?_) (fun h34 hM=>?_)
     ·refine gg 4 rfl ?_
      cases hM
      exact Rn.R1 func57 ⟨rfl,hm33.pk []⟩
     refine gg 3 rfl (Rn.q rfl (V.ldB isAgg3 rfl (hm33.get 3 rfl) rfl) (gg 3 rfl ?_));refine aD hM (fun h35 hM=>?_) (fun h35 hM=>?_)
     ·refine gg 3 rfl (Rn.q rfl (V.ldBA [_,_,_,_,_,_] isAgg40 sizeOf40 rfl (hm33.get 3 rfl) rfl rfl) ?_);obtain ⟨p36,e36,hM⟩:=zAb hM
      refine Rn.c0 (cK func113) (zGw (Z0:=All) e36 (show zA3.rep.rel All _ _ _ from ⟨_,_,rfl,⟨rfl,trivial⟩,⟨_,_,rfl,⟨rfl,trivial⟩,⟨_,_,rfl,⟨_,_,rfl,⟨rfl,trivial⟩,⟨_,_,rfl,(zA7 (hm33.get 1 rfl)).1,(zA7 (hm33.get 1 rfl)).2.1,(zA7 (hm33.get 1 rfl)).2.2⟩⟩,⟨_,_,rfl,⟨rfl,trivial⟩,⟨_,_,rfl,(zA7 (hm33.get 2 rfl)).1,(zA7 (hm33.get 2 rfl)).2.1,(zA7 (hm33.get 2 rfl)).2.2⟩⟩⟩⟩⟩) :) hm33 fun w36 _ hm37=>?_
      refine gg 2 rfl ?_
      cases hM
      exact Rn.R1 func57 ⟨rfl,hm37.pk []⟩
     refine gg 6 rfl ?_
     cases hM
     exact Rn.R1 func57 ⟨rfl,hm33.pk []⟩
    intro j4 hM hk4;refine zWq hM (Rn.part (t:=48) rfl) (fun h38 hM=>?_) (fun h38 hM=>?_)
    ·refine gg 1 rfl (Rn.q rfl (V.ldB isAgg3 rfl (hm30.get 3 rfl) rfl) (gg 2 rfl ?_));refine Rn.jR hm0 hM (G:=Bool) [11,12] (fun g=>[(1,pt b10 0),(48,.bool true),(56,.bool (g))]) (fun g=>[slR Ar1 cr1 zA.rep x0.Attrs,slR Ar3 cr3 zAq x0.Hist.Pos.Counts,slR Ar5 cr5 zAq x0.Hist.Neg.Counts,zAh b10 42 [Str (x0.Name),.slice Ar1 (x0.Attrs).length cr1,iv x0.Kind,iv x0.Temp,.bool (x0.Mono),iv x0.Start,iv x0.Time,iv x0.Int_,zAl x0.Re,zAl x0.Im,iv x0.Hist.Scale,zAl x0.Hist.Zero,iv x0.Hist.Pos.Offset,.slice Ar3 (x0.Hist.Pos.Counts).length cr3,iv x0.Hist.Neg.Offset,.slice Ar5 (x0.Hist.Neg.Counts).length cr5,iv x0.Flags]]) (fun j g=>j g) ?_ ?_
     ·rintro y39 w40 hm40 hM
      try dsimp only at hM
      refine gg 1 rfl ?_;exact hk4 y39 _ _ sA (hm40.pk [0,1,2,3]) hM
     intro j5 hM hk5;refine zIu hM (Rn.partD (t:=52) rfl) (fun h41 hM=>?_) (fun h41 hM=>?_)
     ·refine gg 4 rfl ?_;exact hk5 true _ _ sA (hm30.pk [0,1,2,3]) hM
     refine gg 1 rfl (Rn.q rfl (V.ldB isAgg35 rfl (hm30.get 3 rfl) rfl) ?_);obtain ⟨p42,e42,hM⟩:=zAb hM
     refine Rn.c0 (cK func112) (zPn (Z0:=All) e42  :) hm30 fun w42 _ hm43=>?_
     refine gg 1 rfl ?_;exact hk5 p42 _ _ sA (hm43.pk [0,1,2,3]) hM
    refine gg 9 rfl ?_;exact hk4 false _ _ sA (hm30.pk [0,1,2,3]) hM
   intro j3 hM hk3;refine zIu hM (Rn.partD (t:=39) rfl) (fun h44 hM=>?_) (fun h44 hM=>?_)
   ·refine gg 1 rfl (Rn.q rfl (V.ldB isAgg35 rfl (hm25.get 3 rfl) rfl) ?_);obtain ⟨p45,e45,hM⟩:=zAb hM
    refine Rn.c0 (cK func111) (zNz (Z0:=All) e45  :) hm25 fun w45 _ hm46=>?_
    refine Rn.q rfl (V.notB rfl) (gg 1 rfl ?_);exact hk3 (!p45) _ _ sA (hm46.pk [0,1,2,3]) hM
   refine gg 5 rfl ?_;exact hk3 false _ _ sA (hm25.pk [0,1,2,3]) hM
  intro j2 hM hk2;refine aS hM (fun h47 hM=>?_) (fun h47 hM=>?_)
  ·refine gg 1 rfl ?_;exact hk2 y19 _ _ sA (hm20.pk [0,1,2,3]) hM
  refine gg 1 rfl (Rn.q rfl (V.ldBA [_,_,_,_,_,_,_,_,_,_,_,_,_,_,_,_,_] isAgg42 sizeOf42 rfl (hm20.get 3 rfl) rfl rfl) ?_);obtain ⟨p48,e48,hM⟩:=zAb hM
  refine Rn.c0 (cK func109) (zN9 (Z0:=All) e48 (show zA6.rep.rel All _ _ _ from ⟨_,_,rfl,⟨rfl,trivial⟩,⟨_,_,rfl,⟨_,_,rfl,(zA7 (hm20.get 0 rfl)).1,(zA7 (hm20.get 0 rfl)).2.1,(zA7 (hm20.get 0 rfl)).2.2⟩,⟨_,_,rfl,⟨rfl,trivial⟩,⟨_,_,rfl,⟨rfl,trivial⟩,⟨_,_,rfl,⟨rfl,trivial⟩,⟨_,_,rfl,⟨rfl,trivial⟩,⟨_,_,rfl,⟨rfl,trivial⟩,⟨_,_,rfl,⟨rfl,trivial⟩,⟨_,_,rfl,⟨rfl,trivial⟩,⟨_,_,rfl,⟨rfl,trivial⟩,⟨_,_,rfl,⟨_,_,rfl,⟨rfl,trivial⟩,⟨_,_,rfl,⟨rfl,trivial⟩,⟨_,_,rfl,⟨_,_,rfl,⟨rfl,trivial⟩,⟨_,_,rfl,(zA7 (hm20.get 1 rfl)).1,(zA7 (hm20.get 1 rfl)).2.1,(zA7 (hm20.get 1 rfl)).2.2⟩⟩,⟨_,_,rfl,⟨rfl,trivial⟩,⟨_,_,rfl,(zA7 (hm20.get 2 rfl)).1,(zA7 (hm20.get 2 rfl)).2.1,(zA7 (hm20.get 2 rfl)).2.2⟩⟩⟩⟩⟩,⟨rfl,trivial⟩⟩⟩⟩⟩⟩⟩⟩⟩⟩⟩⟩) :) hm20 fun w48 _ hm49=>?_
  refine Rn.q rfl (V.notB rfl) (gg 2 rfl ?_);exact hk2 (!p48) _ _ sA (hm49.pk [0,1,2,3]) hM
 intro j1 hM hk1;refine zWq hM (Rn.part (t:=19) rfl) (fun h50 hM=>?_) (fun h50 hM=>?_)
 ·refine Rn.q rfl (V.ldBA [_,_,_,_,_,_,_,_,_,_,_,_,_,_,_,_,_] isAgg42 sizeOf42 rfl (hm17.get 3 rfl) rfl rfl) ?_;obtain ⟨p51,e51,hM⟩:=zAb hM
  refine Rn.c0 (cK func108) (zOz (Z0:=All) e51 (show zA6.rep.rel All _ _ _ from ⟨_,_,rfl,⟨rfl,trivial⟩,⟨_,_,rfl,⟨_,_,rfl,(zA7 (hm17.get 0 rfl)).1,(zA7 (hm17.get 0 rfl)).2.1,(zA7 (hm17.get 0 rfl)).2.2⟩,⟨_,_,rfl,⟨rfl,trivial⟩,⟨_,_,rfl,⟨rfl,trivial⟩,⟨_,_,rfl,⟨rfl,trivial⟩,⟨_,_,rfl,⟨rfl,trivial⟩,⟨_,_,rfl,⟨rfl,trivial⟩,⟨_,_,rfl,⟨rfl,trivial⟩,⟨_,_,rfl,⟨rfl,trivial⟩,⟨_,_,rfl,⟨rfl,trivial⟩,⟨_,_,rfl,⟨_,_,rfl,⟨rfl,trivial⟩,⟨_,_,rfl,⟨rfl,trivial⟩,⟨_,_,rfl,⟨_,_,rfl,⟨rfl,trivial⟩,⟨_,_,rfl,(zA7 (hm17.get 1 rfl)).1,(zA7 (hm17.get 1 rfl)).2.1,(zA7 (hm17.get 1 rfl)).2.2⟩⟩,⟨_,_,rfl,⟨rfl,trivial⟩,⟨_,_,rfl,(zA7 (hm17.get 2 rfl)).1,(zA7 (hm17.get 2 rfl)).2.1,(zA7 (hm17.get 2 rfl)).2.2⟩⟩⟩⟩⟩,⟨rfl,trivial⟩⟩⟩⟩⟩⟩⟩⟩⟩⟩⟩⟩) :) hm17 fun w51 _ hm52=>?_
  refine Rn.q rfl (V.notB rfl) (gg 1 rfl ?_);exact hk1 (!p51) _ _ sA (hm52.pk [0,1,2,3]) hM
 refine gg 4 rfl ?_;exact hk1 false _ _ sA (hm17.pk [0,1,2,3]) hM
theorem zEg {x0:(List zA)} {r:(List zA)} (hM:zBz x0=some r) (f0:(slR A0 c0 zA.rep x0).H Z0 w) :
 Calls prog 89 #[.slice A0 (x0).length c0] w fun x w'=>∃ A_0_0 c_0_0,x=.returned (.slice A_0_0 (r).length c_0_0)∧Hp Z0 No w w' [zBi 118 A_0_0 c_0_0 zA.rep r]:=by
 exact zYc w A0 c0 x0 f0 hM
theorem zHk {x0:(List UInt8)} {r:Bool} (hM:zG1 x0=some r)  :
 Calls prog 232 #[Str (x0)] w fun x w'=>x=.returned (.bool (r))∧Hp Z0 No w w' []:=by
 have hm0:=Hp.nil Z0 No w;have hc0:=Calm.nil;refine Rn.en func232 ?_;refine gg 8 rfl (Rn.q rfl (V.neqS rfl rfl) (gg 2 rfl ?_))
 cases hM
 exact Rn.R1 func232 ⟨rfl,hm0.pk []⟩
theorem zK5 {x0:(List UInt8)} {x1:(List UInt8)} {r:Int} (hM:zGn x0 x1=some r)  :
 Calls prog 214 #[Str (x0),Str (x1)] w fun x w'=>x=.returned (iv r)∧Hp Z0 No w w' []:=by
 have hm0:=Hp.nil Z0 No w;have hc0:=Calm.nil;refine Rn.en func214 ?_;refine gg 7 rfl ?_;obtain ⟨p1,e1,hM⟩:=zAb hM
 refine Rn.c0 (cK func232) (zHk (Z0:=All) e1  :) hm0 fun w1 _ hm2=>?_
 refine gg 5 rfl ?_;obtain ⟨p3,e3,hM⟩:=zAb hM
 refine Rn.c0 (cK func232) (zHk (Z0:=All) e3  :) hm2 fun w3 _ hm4=>?_
 refine gg 7 rfl ?_;refine aS hM (fun h5 hM=>?_) (fun h5 hM=>?_)
 ·refine gg 5 rfl ?_;refine aS hM (fun h6 hM=>?_) (fun h6 hM=>?_)
  ·refine gg 4 rfl ?_
   cases hM
   exact Rn.R1 func214 ⟨rfl,hm4.pk []⟩
  refine gg 5 rfl ?_
  cases hM
  exact Rn.R1 func214 ⟨rfl,hm4.pk []⟩
 refine gg 6 rfl ?_;refine aS hM (fun h7 hM=>?_) (fun h7 hM=>?_)
 ·refine gg 4 rfl ?_
  cases hM
  exact Rn.R1 func214 ⟨rfl,hm4.pk []⟩
 refine gg 6 rfl (Rn.q rfl (V.lssS rfl rfl) (gg 1 rfl ?_));refine aS hM (fun h8 hM=>?_) (fun h8 hM=>?_)
 ·refine gg 4 rfl ?_
  cases hM
  exact Rn.R1 func214 ⟨rfl,hm4.pk []⟩
 refine gg 6 rfl (Rn.q rfl (V.gtrS rfl rfl) (gg 1 rfl ?_));refine aS hM (fun h9 hM=>?_) (fun h9 hM=>?_)
 ·refine gg 4 rfl ?_
  cases hM
  exact Rn.R1 func214 ⟨rfl,hm4.pk []⟩
 refine gg 5 rfl ?_
 cases hM
 exact Rn.R1 func214 ⟨rfl,hm4.pk []⟩
theorem zF5 {x0:zA} {x1:zA} {r:Int} (hM:zE3 x0 x1=some r)  :
 Calls prog 213 #[.agg [Str (x0.Key),Str (x0.Val)].toArray,.agg [Str (x1.Key),Str (x1.Val)].toArray] w fun x w'=>x=.returned (iv r)∧Hp Z0 No w w' []:=by
 have hm0:=Hp.nil Z0 No w;have hc0:=Calm.nil;refine Rn.en func213 ?_;refine gg 2 rfl (Rn.box rfl rfl rfl rfl rfl ?_);intro b1 w1 hb1 m1 e1;have hm3:=(hm0.addBox hb1 e1 m1).nf [zAh _ _ [_,_]] rfl;refine Rn.box rfl rfl rfl rfl rfl ?_;intro b4 w4 hb4 m4 e4;have hm6:=(hm3.addBox hb4 e4 m4).nf [_,zAh _ _ [_,_]] rfl;refine gg 5 rfl (Rn.q rfl (V.ldB isAgg9 rfl (hm6.get 0 rfl) rfl) (gg 1 rfl (Rn.q rfl (V.ldB isAgg9 rfl (hm6.get 1 rfl) rfl) ?_)));obtain ⟨p7,e7,hM⟩:=zAb hM
 refine Rn.c0 (cK func214) (zK5 (Z0:=All) e7  :) hm6 fun w7 _ hm8=>?_
 refine gg 2 rfl ?_
 cases hM
 exact Rn.R1 func213 ⟨rfl,hm8.pk []⟩
theorem m_slices_insertionSortCmpFunc_api_Pair_s2_sim {x0:(List zA)} {x1:Int} {x2:Int} {r:(List zA)} (hM:zB1 x0 x1 x2=some r) (hL:zIg Z0 w [zBi 118 A0 c0 zA.rep x0]) :
 Calls prog 233 #[.slice A0 (x0).length c0,iv x1,iv x2,.func (.func 213) #[] [].toArray] w fun x w'=>x=.returned (.tuple #[])∧Hp Z0 (LS [zBi 118 A0 c0 zA.rep x0]) w w' [zBi 118 A0 c0 zA.rep r]∧(r).length=(x0).length:=by
 have hm0:=hL.start;refine Rn.en func233 ?_;refine gg 6 rfl ?_;obtain ⟨j1,hj1,hM⟩:=jnE hM;refine Rn.joinG (r:=r) (G:=(List zA)) (fun g=>[]) (fun g w'=>Hp Z0 (LS [zBi 118 A0 c0 zA.rep x0]) w w' [zBi 118 A0 c0 zA.rep g]∧g.length=(x0).length) (fun g=>j1 g) ?_ ?_
 ·subst hj1;clear hM;rintro y2 w3 ⟨hm3,hl2⟩ hM;replace hl2:y2.length=(x0).length:=hl2
  try dsimp only at hM
  refine Rn.end0 func233 rfl ?_;obtain rfl:=zDt hM;exact ⟨rfl,hm3.pk [0],hl2⟩
 intro hk1;clear hj1;refine gg 1 rfl ?_;refine Rn.loopF (G:=(List zA)×Int) (fun g=>[(0,.slice A0 (x0).length c0),(1,iv x1),(2,iv x2),(3,.func (.func 213) #[] [].toArray),(8,iv (g.2))]) (fun g w'=>Hp Z0 (LS [zBi 118 A0 c0 zA.rep x0]) w w' [zBi 118 A0 c0 zA.rep (g.1)]∧(g.1).length=(x0).length) (fun n g=>zAo x1 x2 j1 n g.1 g.2) fuel (x0,(W64 (x1+1))) sA (⟨hm0.pk [0],rfl⟩) hM (fun _=>rfl) ?_;clear hM;rintro m6 ⟨y4,y5⟩ w6 ⟨hm6,hl4⟩ hM hn6;replace hl4:y4.length=(x0).length:=hl4;replace hM:zAo x1 x2 j1 (m6+1) y4 y5=some r:=hM;rw [zAo] at hM;refine gg 7 rfl ?_;refine aD hM (fun h7 hM=>?_) (fun h7 hM=>?_)
 ·refine gg 8 rfl ?_;obtain ⟨j2,hj2,hM⟩:=jnE hM;refine Rn.joinG (r:=r) (G:=(List zA)) (fun g=>[(0,.slice A0 (x0).length c0),(1,iv x1),(2,iv x2),(3,.func (.func 213) #[] [].toArray),(8,iv y5)]) (fun g w'=>Hp Z0 (LS [zBi 118 A0 c0 zA.rep x0]) w w' [zBi 118 A0 c0 zA.rep g]∧g.length=(x0).length) (fun g=>j2 g) ?_ ?_
  ·subst hj2;clear hM;rintro y8 w9 ⟨hm9,hl8⟩ hM;replace hl8:y8.length=(x0).length:=hl8
   try dsimp only at hM
   refine gg 6 rfl ?_;exact hn6 (y8,(W64 (y5+1))) _ _ sA (⟨hm9.pk [0],hl8⟩) hM
  intro hk2;clear hj2;refine gg 1 rfl ?_;refine Rn.loopF (G:=(List zA)×Int) (fun g=>[(0,.slice A0 (x0).length c0),(1,iv x1),(2,iv x2),(3,.func (.func 213) #[] [].toArray),(8,iv y5),(9,iv (g.2))]) (fun g w'=>Hp Z0 (LS [zBi 118 A0 c0 zA.rep x0]) w w' [zBi 118 A0 c0 zA.rep (g.1)]∧(g.1).length=(x0).length) (fun n g=>zAp x1 j2 n g.1 g.2) fuel (y4,y5) sA (⟨hm6.pk [0],hl4⟩) hM (fun _=>rfl) ?_;clear hM;rintro m12 ⟨y10,y11⟩ w12 ⟨hm12,hl10⟩ hM hn12;replace hl10:y10.length=(x0).length:=hl10;replace hM:zAp x1 j2 (m12+1) y10 y11=some r:=hM;rw [zAp] at hM;refine gg 2 rfl ?_;refine Rn.jG hm0 hM (G:=Bool) (fun g=>[(0,.slice A0 (x0).length c0),(1,iv x1),(2,iv x2),(3,.func (.func 213) #[] [].toArray),(8,iv y5),(9,iv y11),(34,.bool (g))]) (fun g=>[zBi 118 A0 c0 zA.rep y10]) (fun j g=>j g) ?_ ?_
  ·rintro y13 w14 hm14 hM
   try dsimp only at hM
   refine aS hM (fun h15 hM=>?_) (fun h15 hM=>?_)
   ·refine gg 3 rfl ?_;refine Rn.drawX rfl hm14 ?_;intro w16 hm16;refine dq [0,1,2,3,4,5,6,7] ?_;obtain ⟨z17,e17,hM⟩:=zAb hM;obtain ⟨kk17,ke17,kz17,kl17⟩:=zGz e17;obtain ⟨g17,vs17,hA17,hR17,hrel17⟩:=hm16.ownAt 0 rfl kz17;subst hA17;obtain rfl:=zA.relE hrel17;refine RH.tk 8 rfl (fun w' hDr=>V.ixE kk17 underlying34 sizeOf118 rfl rfl ke17 (Nat.lt_of_lt_of_eq kl17 hl10)) ?_;refine dq [10,11] ?_;obtain ⟨z18,e18,hM⟩:=zAb hM;obtain ⟨kk18,ke18,kz18,kl18⟩:=zGz e18;obtain ⟨vs18,hR18,hrel18⟩:=hm16.ownAtL 0 rfl kz18;obtain rfl:=zA.relE hrel18;refine RH.tk 12 rfl (fun w' hDr=>V.ixE kk18 underlying34 sizeOf118 rfl rfl ke18 (Nat.lt_of_lt_of_eq kl18 hl10)) ?_;refine RH.two 9 13 (by kernel_rfl) rfl rfl rfl rfl (V.ldA (vs:=[_,_]) isAgg118 sizeOf118 rfl (Rd.pre hR17 2) rfl) rfl rfl rfl rfl (V.ldA (vs:=[_,_]) isAgg118 sizeOf118 rfl (Rd.pre hR18 2) rfl) ?_ ?_
    ·refine RH.here fun hS13=>RH.on 13 rfl (V.ldA (vs:=[_,_]) isAgg118 sizeOf118 rfl (Rd.pre hR18 2) rfl) hS13 ?_
     obtain ⟨z20,e20,hM⟩:=zAb hM;obtain ⟨kk20,ke20,kz20,kl20⟩:=zGz e20;obtain ⟨vs20,hR20,hrel20⟩:=hm16.ownAtL 0 rfl kz20;obtain rfl:=zA.relE hrel20
     refine RH.here fun hS14=>RH.on 14 rfl (V.ixE kk20 underlying34 sizeOf118 rfl rfl ke20 (Nat.lt_of_lt_of_eq kl20 hl10)) hS14 ?_
     refine RH.stI 15 (by kernel_rfl) hm16 0 rfl ke20 kl20 rfl rfl sizeOf118 rfl rfl rfl (vs:=[Str (z17.Key),Str (z17.Val)]) rfl (⟨_,_,rfl,⟨rfl,trivial⟩,⟨rfl,trivial⟩⟩) ?_;intro w21 hm21;refine ⟨trivial,?_⟩;obtain ⟨z22,e22,hM⟩:=zAb hM;obtain ⟨kk22,ke22,kz22,kl22⟩:=zGz e22;obtain ⟨vs22,hR22,hrel22⟩:=hm21.ownAtL 0 rfl kz22;obtain rfl:=zA.relE hrel22
     refine RH.here fun hS16=>RH.on 16 rfl (V.ixE kk22 underlying34 sizeOf118 rfl rfl ke22 (Nat.lt_of_lt_of_eq kl22 ((zBc _ _ _).trans hl10))) hS16 ?_
     refine RH.stI 17 (by kernel_rfl) hm21 0 rfl ke22 kl22 rfl rfl sizeOf118 rfl rfl rfl (vs:=[Str (z18.Key),Str (z18.Val)]) rfl (⟨_,_,rfl,⟨rfl,trivial⟩,⟨rfl,trivial⟩⟩) ?_;intro w23 hm23;refine ⟨trivial,?_⟩;refine RH.doneP (by kernel_rfl) ?_;refine gg 6 rfl ?_;exact hn12 ((zGq (zGq y10 y11 z17) (W64 (y11-1)) z18),(W64 (y11-1))) _ _ sA (⟨hm23.pk [0],((zBc _ _ _).trans ((zBc _ _ _).trans hl10))⟩) hM
    refine RH.here fun hS9=>RH.on 9 rfl (V.ldA (vs:=[_,_]) isAgg118 sizeOf118 rfl (Rd.pre hR17 2) rfl) hS9 ?_
    obtain ⟨z24,e24,hM⟩:=zAb hM;obtain ⟨kk24,ke24,kz24,kl24⟩:=zGz e24;obtain ⟨vs24,hR24,hrel24⟩:=hm16.ownAtL 0 rfl kz24;obtain rfl:=zA.relE hrel24
    refine RH.here fun hS14=>RH.on 14 rfl (V.ixE kk24 underlying34 sizeOf118 rfl rfl ke24 (Nat.lt_of_lt_of_eq kl24 hl10)) hS14 ?_
    refine RH.stI 15 (by kernel_rfl) hm16 0 rfl ke24 kl24 rfl rfl sizeOf118 rfl rfl rfl (vs:=[Str (z17.Key),Str (z17.Val)]) rfl (⟨_,_,rfl,⟨rfl,trivial⟩,⟨rfl,trivial⟩⟩) ?_;intro w25 hm25;refine ⟨trivial,?_⟩;obtain ⟨z26,e26,hM⟩:=zAb hM;obtain ⟨kk26,ke26,kz26,kl26⟩:=zGz e26;obtain ⟨vs26,hR26,hrel26⟩:=hm25.ownAtL 0 rfl kz26;obtain rfl:=zA.relE hrel26
    refine RH.here fun hS16=>RH.on 16 rfl (V.ixE kk26 underlying34 sizeOf118 rfl rfl ke26 (Nat.lt_of_lt_of_eq kl26 ((zBc _ _ _).trans hl10))) hS16 ?_
    refine RH.stI 17 (by kernel_rfl) hm25 0 rfl ke26 kl26 rfl rfl sizeOf118 rfl rfl rfl (vs:=[Str (z18.Key),Str (z18.Val)]) rfl (⟨_,_,rfl,⟨rfl,trivial⟩,⟨rfl,trivial⟩⟩) ?_;intro w27 hm27;refine ⟨trivial,?_⟩;refine RH.doneP (by kernel_rfl) ?_;refine gg 6 rfl ?_;exact hn12 ((zGq (zGq y10 y11 z17) (W64 (y11-1)) z18),(W64 (y11-1))) _ _ sA (⟨hm27.pk [0],((zBc _ _ _).trans ((zBc _ _ _).trans hl10))⟩) hM
   refine gg 1 rfl ?_;exact hk2 y10 _ _ sA (⟨hm14.pk [0],hl10⟩) hM
  intro j3 hM hk3;refine Rn.drawH rfl hm12 ?_;intro w28 hm28;refine dq [0,1,2,3] ?_;refine zIu hM (RH.partD (t:=21) rfl) (fun h29 hM=>?_) (fun h29 hM=>?_)
  ·refine dq [4,5,6] ?_;obtain ⟨z30,e30,hM⟩:=zAb hM;obtain ⟨kk30,ke30,kz30,kl30⟩:=zGz e30;obtain ⟨g30,vs30,hA30,hR30,hrel30⟩:=hm28.ownAt 0 rfl kz30;subst hA30;obtain rfl:=zA.relE hrel30;refine RH.tk 7 rfl (fun w' hDr=>V.ixE kk30 underlying34 sizeOf118 rfl rfl ke30 (Nat.lt_of_lt_of_eq kl30 hl10)) ?_;refine RH.tk 8 rfl (fun w' hDr=>V.ldA (vs:=[_,_]) isAgg118 sizeOf118 rfl (Rd.pre (hR30.ext hDr) 2) rfl) ?_;refine dq [9,10,11] ?_;obtain ⟨z31,e31,hM⟩:=zAb hM;obtain ⟨kk31,ke31,kz31,kl31⟩:=zGz e31;obtain ⟨vs31,hR31,hrel31⟩:=hm28.ownAtL 0 rfl kz31;obtain rfl:=zA.relE hrel31
   refine RH.here fun hS12=>RH.on 12 rfl (V.ixE kk31 underlying34 sizeOf118 rfl rfl ke31 (Nat.lt_of_lt_of_eq kl31 hl10)) hS12 ?_
   refine RH.here fun hS13=>RH.on 13 rfl (V.ldA (vs:=[_,_]) isAgg118 sizeOf118 rfl (Rd.pre hR31 2) rfl) hS13 ?_
   obtain ⟨p32,e32,hM⟩:=zAb hM;refine RH.clV (cK func213) 14 (by kernel_rfl) rfl rfl rfl rfl rfl (zF5 (Z0:=All) e32  :) ?_;rintro _ w32 ⟨rfl,hq32⟩;refine ⟨_,rfl,((Ext.refl _).trans hq32.fr),?_⟩;have hm33:=hm28.call0 hq32;refine dq [15,16] ?_;refine RH.doneP (by kernel_rfl) ?_;exact hk3 (decide (p32<0)) _ _ sA (hm33.pk [0]) hM
  refine dq [4,5,6,7,8,9,10,11,12,13,14,15,16] ?_;refine RH.doneP (by kernel_rfl) ?_;exact hk3 false _ _ sA (hm28.pk [0]) hM
 refine gg 1 rfl ?_;exact hk1 y4 _ _ (sb trivial) (⟨hm6.pk [0],hl4⟩) hM
theorem m_slices_swapRangeCmpFunc_api_Pair_s2_sim {x0:(List zA)} {x1:Int} {x2:Int} {x3:Int} {r:(List zA)} (hM:zC x0 x1 x2 x3=some r) (hL:zIg Z0 w [zBi 118 A0 c0 zA.rep x0]) :
 Calls prog 236 #[.slice A0 (x0).length c0,iv x1,iv x2,iv x3,.func (.func 213) #[] [].toArray] w fun x w'=>x=.returned (.tuple #[])∧Hp Z0 (LS [zBi 118 A0 c0 zA.rep x0]) w w' [zBi 118 A0 c0 zA.rep r]∧(r).length=(x0).length:=by
 have hm0:=hL.start;refine Rn.en func236 ?_;refine gg 4 rfl ?_;obtain ⟨j1,hj1,hM⟩:=jnE hM;refine Rn.joinG (r:=r) (G:=(List zA)) (fun g=>[]) (fun g w'=>Hp Z0 (LS [zBi 118 A0 c0 zA.rep x0]) w w' [zBi 118 A0 c0 zA.rep g]∧g.length=(x0).length) (fun g=>j1 g) ?_ ?_
 ·subst hj1;clear hM;rintro y2 w3 ⟨hm3,hl2⟩ hM;replace hl2:y2.length=(x0).length:=hl2
  try dsimp only at hM
  refine Rn.end0 func236 rfl ?_;obtain rfl:=zDt hM;exact ⟨rfl,hm3.pk [0],hl2⟩
 intro hk1;clear hj1;refine gg 1 rfl ?_;refine Rn.loopF (G:=(List zA)×Int) (fun g=>[(0,.slice A0 (x0).length c0),(1,iv x1),(2,iv x2),(3,iv x3),(10,iv (g.2))]) (fun g w'=>Hp Z0 (LS [zBi 118 A0 c0 zA.rep x0]) w w' [zBi 118 A0 c0 zA.rep (g.1)]∧(g.1).length=(x0).length) (fun n g=>zBl x1 x2 x3 j1 n g.1 g.2) fuel (x0,0) sA (⟨hm0.pk [0],rfl⟩) hM (fun _=>rfl) ?_;clear hM;rintro m6 ⟨y4,y5⟩ w6 ⟨hm6,hl4⟩ hM hn6;replace hl4:y4.length=(x0).length:=hl4;replace hM:zBl x1 x2 x3 j1 (m6+1) y4 y5=some r:=hM;rw [zBl] at hM;refine gg 7 rfl ?_;refine aD hM (fun h7 hM=>?_) (fun h7 hM=>?_)
 ·refine gg 3 rfl ?_;refine Rn.drawX rfl hm6 ?_;intro w8 hm8;refine dq [0,1,2,3,4,5,6,7,8,9,10,11] ?_;obtain ⟨z9,e9,hM⟩:=zAb hM;obtain ⟨kk9,ke9,kz9,kl9⟩:=zGz e9;obtain ⟨g9,vs9,hA9,hR9,hrel9⟩:=hm8.ownAt 0 rfl kz9;subst hA9;obtain rfl:=zA.relE hrel9;refine RH.tk 12 rfl (fun w' hDr=>V.ixE kk9 underlying34 sizeOf118 rfl rfl ke9 (Nat.lt_of_lt_of_eq kl9 hl4)) ?_;refine dq [14,15,16,17] ?_;obtain ⟨z10,e10,hM⟩:=zAb hM;obtain ⟨kk10,ke10,kz10,kl10⟩:=zGz e10;obtain ⟨vs10,hR10,hrel10⟩:=hm8.ownAtL 0 rfl kz10;obtain rfl:=zA.relE hrel10;refine RH.tk 18 rfl (fun w' hDr=>V.ixE kk10 underlying34 sizeOf118 rfl rfl ke10 (Nat.lt_of_lt_of_eq kl10 hl4)) ?_;refine RH.two 13 19 (by kernel_rfl) rfl rfl rfl rfl (V.ldA (vs:=[_,_]) isAgg118 sizeOf118 rfl (Rd.pre hR9 2) rfl) rfl rfl rfl rfl (V.ldA (vs:=[_,_]) isAgg118 sizeOf118 rfl (Rd.pre hR10 2) rfl) ?_ ?_
  ·refine RH.here fun hS19=>RH.on 19 rfl (V.ldA (vs:=[_,_]) isAgg118 sizeOf118 rfl (Rd.pre hR10 2) rfl) hS19 ?_
   obtain ⟨z12,e12,hM⟩:=zAb hM;obtain ⟨kk12,ke12,kz12,kl12⟩:=zGz e12;obtain ⟨vs12,hR12,hrel12⟩:=hm8.ownAtL 0 rfl kz12;obtain rfl:=zA.relE hrel12
   refine RH.here fun hS20=>RH.on 20 rfl (V.ixE kk12 underlying34 sizeOf118 rfl rfl ke12 (Nat.lt_of_lt_of_eq kl12 hl4)) hS20 ?_
   refine RH.stI 21 (by kernel_rfl) hm8 0 rfl ke12 kl12 rfl rfl sizeOf118 rfl rfl rfl (vs:=[Str (z9.Key),Str (z9.Val)]) rfl (⟨_,_,rfl,⟨rfl,trivial⟩,⟨rfl,trivial⟩⟩) ?_;intro w13 hm13;refine ⟨trivial,?_⟩;obtain ⟨z14,e14,hM⟩:=zAb hM;obtain ⟨kk14,ke14,kz14,kl14⟩:=zGz e14;obtain ⟨vs14,hR14,hrel14⟩:=hm13.ownAtL 0 rfl kz14;obtain rfl:=zA.relE hrel14
   refine RH.here fun hS22=>RH.on 22 rfl (V.ixE kk14 underlying34 sizeOf118 rfl rfl ke14 (Nat.lt_of_lt_of_eq kl14 ((zBc _ _ _).trans hl4))) hS22 ?_
   refine RH.stI 23 (by kernel_rfl) hm13 0 rfl ke14 kl14 rfl rfl sizeOf118 rfl rfl rfl (vs:=[Str (z10.Key),Str (z10.Val)]) rfl (⟨_,_,rfl,⟨rfl,trivial⟩,⟨rfl,trivial⟩⟩) ?_;intro w15 hm15;refine ⟨trivial,?_⟩;refine RH.doneP (by kernel_rfl) ?_;refine gg 6 rfl ?_;exact hn6 ((zGq (zGq y4 (W64 (x1+y5)) z9) (W64 (x2+y5)) z10),(W64 (y5+1))) _ _ sA (⟨hm15.pk [0],((zBc _ _ _).trans ((zBc _ _ _).trans hl4))⟩) hM
  refine RH.here fun hS13=>RH.on 13 rfl (V.ldA (vs:=[_,_]) isAgg118 sizeOf118 rfl (Rd.pre hR9 2) rfl) hS13 ?_
  obtain ⟨z16,e16,hM⟩:=zAb hM;obtain ⟨kk16,ke16,kz16,kl16⟩:=zGz e16;obtain ⟨vs16,hR16,hrel16⟩:=hm8.ownAtL 0 rfl kz16;obtain rfl:=zA.relE hrel16
  refine RH.here fun hS20=>RH.on 20 rfl (V.ixE kk16 underlying34 sizeOf118 rfl rfl ke16 (Nat.lt_of_lt_of_eq kl16 hl4)) hS20 ?_
  refine RH.stI 21 (by kernel_rfl) hm8 0 rfl ke16 kl16 rfl rfl sizeOf118 rfl rfl rfl (vs:=[Str (z9.Key),Str (z9.Val)]) rfl (⟨_,_,rfl,⟨rfl,trivial⟩,⟨rfl,trivial⟩⟩) ?_;intro w17 hm17;refine ⟨trivial,?_⟩;obtain ⟨z18,e18,hM⟩:=zAb hM;obtain ⟨kk18,ke18,kz18,kl18⟩:=zGz e18;obtain ⟨vs18,hR18,hrel18⟩:=hm17.ownAtL 0 rfl kz18;obtain rfl:=zA.relE hrel18
  refine RH.here fun hS22=>RH.on 22 rfl (V.ixE kk18 underlying34 sizeOf118 rfl rfl ke18 (Nat.lt_of_lt_of_eq kl18 ((zBc _ _ _).trans hl4))) hS22 ?_
  refine RH.stI 23 (by kernel_rfl) hm17 0 rfl ke18 kl18 rfl rfl sizeOf118 rfl rfl rfl (vs:=[Str (z10.Key),Str (z10.Val)]) rfl (⟨_,_,rfl,⟨rfl,trivial⟩,⟨rfl,trivial⟩⟩) ?_;intro w19 hm19;refine ⟨trivial,?_⟩;refine RH.doneP (by kernel_rfl) ?_;refine gg 6 rfl ?_;exact hn6 ((zGq (zGq y4 (W64 (x1+y5)) z9) (W64 (x2+y5)) z10),(W64 (y5+1))) _ _ sA (⟨hm19.pk [0],((zBc _ _ _).trans ((zBc _ _ _).trans hl4))⟩) hM
 refine gg 1 rfl ?_;exact hk1 y4 _ _ (sb trivial) (⟨hm6.pk [0],hl4⟩) hM
theorem m_slices_rotateCmpFunc_api_Pair_s2_sim {x0:(List zA)} {x1:Int} {x2:Int} {x3:Int} {r:(List zA)} (hM:zEt x0 x1 x2 x3=some r) (hL:zIg Z0 w [zBi 118 A0 c0 zA.rep x0]) :
 Calls prog 235 #[.slice A0 (x0).length c0,iv x1,iv x2,iv x3,.func (.func 213) #[] [].toArray] w fun x w'=>x=.returned (.tuple #[])∧Hp Z0 (LS [zBi 118 A0 c0 zA.rep x0]) w w' [zBi 118 A0 c0 zA.rep r]∧(r).length=(x0).length:=by
 have hm0:=hL.start;refine Rn.en func235 ?_;refine gg 15 rfl ?_;obtain ⟨j1,hj1,hM⟩:=jnE hM;refine Rn.joinG (r:=r) (G:=(List zA)×Int) (fun g=>[(0,.slice A0 (x0).length c0),(2,iv x2),(4,.func (.func 213) #[] [].toArray),(10,iv (g.2))]) (fun g w'=>Hp Z0 (LS [zBi 118 A0 c0 zA.rep x0]) w w' [zBi 118 A0 c0 zA.rep (g.1)]∧(g.1).length=(x0).length) (fun g=>j1 g.1 g.2) ?_ ?_
 ·subst hj1;clear hM;rintro ⟨y2,y3⟩ w4 ⟨hm4,hl2⟩ hM;replace hl2:y2.length=(x0).length:=hl2
  try dsimp only at hM
  refine gg 8 rfl ?_;refine Rn.say (t:=50) (.slice A0 (y2).length c0) rfl (congrArg (fun (n0:Nat)=>Value.slice A0 n0 c0) (show (x0).length=(y2).length from (hl2).symm.trans (rfl))) ?_;obtain ⟨p5,e5,hM⟩:=zAb hM;have hm6:=hm4.cu [] [0];refine Rn.cq (cK func236) (m_slices_swapRangeCmpFunc_api_Pair_s2_sim e5 hm6.lend :) ?_;rintro _ w5 ⟨rfl,hq5,hl5_0⟩;refine ⟨_,rfl,?_⟩;have hm8:=hm6.callAZ hq5;refine gg 1 rfl ?_;refine Rn.end0 func235 rfl ?_;obtain rfl:=zDt hM;exact ⟨rfl,hm8.pk [0],(hl5_0.trans hl2)⟩
 intro hk1;clear hj1;refine gg 1 rfl ?_;refine Rn.loopF (G:=(List zA)×Int×Int) (fun g=>[(0,.slice A0 (x0).length c0),(2,iv x2),(4,.func (.func 213) #[] [].toArray),(10,iv (g.2.1)),(11,iv (g.2.2))]) (fun g w'=>Hp Z0 (LS [zBi 118 A0 c0 zA.rep x0]) w w' [zBi 118 A0 c0 zA.rep (g.1)]∧(g.1).length=(x0).length) (fun n g=>zBh x2 j1 n g.1 g.2.1 g.2.2) fuel (x0,(W64 (x2-x1)),(W64 (x3-x2))) sA (⟨hm0.pk [0],rfl⟩) hM (fun _=>rfl) ?_;clear hM;rintro m12 ⟨y9,y10,y11⟩ w12 ⟨hm12,hl9⟩ hM hn12;replace hl9:y9.length=(x0).length:=hl9;replace hM:zBh x2 j1 (m12+1) y9 y10 y11=some r:=hM;rw [zBh] at hM;refine gg 7 rfl ?_;refine aD hM (fun h13 hM=>?_) (fun h13 hM=>?_)
 ·refine gg 8 rfl ?_;refine aD hM (fun h14 hM=>?_) (fun h14 hM=>?_)
  ·refine gg 9 rfl ?_;refine Rn.say (t:=0) (.slice A0 (y9).length c0) rfl (congrArg (fun (n0:Nat)=>Value.slice A0 n0 c0) (show (x0).length=(y9).length from (hl9).symm.trans (rfl))) ?_;refine Rn.say (t:=24) (.slice A0 (y9).length c0) rfl (congrArg (fun (n0:Nat)=>Value.slice A0 n0 c0) (show (x0).length=(y9).length from (hl9).symm.trans (rfl))) ?_;obtain ⟨p15,e15,hM⟩:=zAb hM;have hm16:=hm12.cu [] [0];refine Rn.cq (cK func236) (m_slices_swapRangeCmpFunc_api_Pair_s2_sim e15 hm16.lend :) ?_;rintro _ w15 ⟨rfl,hq15,hl15_0⟩;refine ⟨_,rfl,?_⟩;have hm18:=hm16.callAZ hq15;refine gg 8 rfl ?_;refine Rn.say (t:=0) (.slice A0 (x0).length c0) rfl (congrArg (fun (n0:Nat)=>Value.slice A0 n0 c0) (show (y9).length=(x0).length from (hl15_0).symm.trans ((hl15_0.trans hl9)))) ?_;exact hn12 (p15,(W64 (y10-y11)),y11) _ _ sA (⟨hm18.pk [0],(hl15_0.trans hl9)⟩) hM
  refine gg 13 rfl ?_;refine Rn.say (t:=0) (.slice A0 (y9).length c0) rfl (congrArg (fun (n0:Nat)=>Value.slice A0 n0 c0) (show (x0).length=(y9).length from (hl9).symm.trans (rfl))) ?_;refine Rn.say (t:=35) (.slice A0 (y9).length c0) rfl (congrArg (fun (n0:Nat)=>Value.slice A0 n0 c0) (show (x0).length=(y9).length from (hl9).symm.trans (rfl))) ?_;obtain ⟨p19,e19,hM⟩:=zAb hM;have hm20:=hm12.cu [] [0];refine Rn.cq (cK func236) (m_slices_swapRangeCmpFunc_api_Pair_s2_sim e19 hm20.lend :) ?_;rintro _ w19 ⟨rfl,hq19,hl19_0⟩;refine ⟨_,rfl,?_⟩;have hm22:=hm20.callAZ hq19;refine gg 8 rfl ?_;refine Rn.say (t:=0) (.slice A0 (x0).length c0) rfl (congrArg (fun (n0:Nat)=>Value.slice A0 n0 c0) (show (y9).length=(x0).length from (hl19_0).symm.trans ((hl19_0.trans hl9)))) ?_;exact hn12 (p19,y10,(W64 (y11-y10))) _ _ sA (⟨hm22.pk [0],(hl19_0.trans hl9)⟩) hM
 refine gg 1 rfl ?_;exact hk1 (y9,y10) _ _ sA (⟨hm12.pk [0],hl9⟩) hM
theorem m_slices_symMergeCmpFunc_api_Pair_s2_sim {x0:(List zA)} {x1:Int} {x2:Int} {x3:Int} {r:(List zA)} (hM:zCx x0 x1 x2 x3=some r) (hL:zIg Z0 w [zBi 118 A0 c0 zA.rep x0]) :
 Calls prog 234 #[.slice A0 (x0).length c0,iv x1,iv x2,iv x3,.func (.func 213) #[] [].toArray] w fun x w'=>x=.returned (.tuple #[])∧Hp Z0 (LS [zBi 118 A0 c0 zA.rep x0]) w w' [zBi 118 A0 c0 zA.rep r]∧(r).length=(x0).length:=by
 have hm0:=hL.start;refine Rn.en func234 ?_;refine gg 8 rfl ?_;refine aD hM (fun h2 hM=>?_) (fun h2 hM=>?_)
 ·refine gg 11 rfl ?_;refine Rn.jG hm0 hM (G:=Int) (fun g=>[(0,.slice A0 (x0).length c0),(1,iv x1),(10,iv g)]) (fun g=>[zBi 118 A0 c0 zA.rep x0]) (fun j g=>j g) ?_ ?_
  ·rintro y3 w4 hm4 hM
   try dsimp only at hM
   refine gg 6 rfl ?_;obtain ⟨j2,hj2,hM⟩:=jnE hM;refine Rn.joinG (r:=r) (G:=(List zA)) (fun g=>[]) (fun g w'=>Hp Z0 (LS [zBi 118 A0 c0 zA.rep x0]) w w' [zBi 118 A0 c0 zA.rep g]∧g.length=(x0).length) (fun g=>j2 g) ?_ ?_
   ·subst hj2;clear hM;rintro y5 w6 ⟨hm6,hl5⟩ hM;replace hl5:y5.length=(x0).length:=hl5
    try dsimp only at hM
    refine Rn.ret0 func234 rfl ?_;obtain rfl:=zDt hM;exact ⟨rfl,hm6.pk [0],hl5⟩
   intro hk2;clear hj2;refine gg 1 rfl ?_;refine Rn.loopF (G:=(List zA)×Int) (fun g=>[(0,.slice A0 (x0).length c0),(10,iv y3),(13,iv (g.2))]) (fun g w'=>Hp Z0 (LS [zBi 118 A0 c0 zA.rep x0]) w w' [zBi 118 A0 c0 zA.rep (g.1)]∧(g.1).length=(x0).length) (fun n g=>zBo y3 j2 n g.1 g.2) fuel (x0,x1) sA (⟨hm4.pk [0],rfl⟩) hM (fun _=>rfl) ?_;clear hM;rintro m9 ⟨y7,y8⟩ w9 ⟨hm9,hl7⟩ hM hn9;replace hl7:y7.length=(x0).length:=hl7;replace hM:zBo y3 j2 (m9+1) y7 y8=some r:=hM;rw [zBo] at hM;refine gg 8 rfl ?_;refine aD hM (fun h10 hM=>?_) (fun h10 hM=>?_)
   ·refine gg 3 rfl ?_;refine Rn.drawX rfl hm9 ?_;intro w11 hm11;refine dq [0,1,2,3,4,5,6,7] ?_;obtain ⟨z12,e12,hM⟩:=zAb hM;obtain ⟨kk12,ke12,kz12,kl12⟩:=zGz e12;obtain ⟨g12,vs12,hA12,hR12,hrel12⟩:=hm11.ownAt 0 rfl kz12;subst hA12;obtain rfl:=zA.relE hrel12;refine RH.tk 8 rfl (fun w' hDr=>V.ixE kk12 underlying34 sizeOf118 rfl rfl ke12 (Nat.lt_of_lt_of_eq kl12 hl7)) ?_;refine dq [10,11] ?_;obtain ⟨z13,e13,hM⟩:=zAb hM;obtain ⟨kk13,ke13,kz13,kl13⟩:=zGz e13;obtain ⟨vs13,hR13,hrel13⟩:=hm11.ownAtL 0 rfl kz13;obtain rfl:=zA.relE hrel13;refine RH.tk 12 rfl (fun w' hDr=>V.ixE kk13 underlying34 sizeOf118 rfl rfl ke13 (Nat.lt_of_lt_of_eq kl13 hl7)) ?_;refine RH.two 9 13 (by kernel_rfl) rfl rfl rfl rfl (V.ldA (vs:=[_,_]) isAgg118 sizeOf118 rfl (Rd.pre hR12 2) rfl) rfl rfl rfl rfl (V.ldA (vs:=[_,_]) isAgg118 sizeOf118 rfl (Rd.pre hR13 2) rfl) ?_ ?_
    ·refine RH.here fun hS13=>RH.on 13 rfl (V.ldA (vs:=[_,_]) isAgg118 sizeOf118 rfl (Rd.pre hR13 2) rfl) hS13 ?_
     obtain ⟨z15,e15,hM⟩:=zAb hM;obtain ⟨kk15,ke15,kz15,kl15⟩:=zGz e15;obtain ⟨vs15,hR15,hrel15⟩:=hm11.ownAtL 0 rfl kz15;obtain rfl:=zA.relE hrel15
     refine RH.here fun hS14=>RH.on 14 rfl (V.ixE kk15 underlying34 sizeOf118 rfl rfl ke15 (Nat.lt_of_lt_of_eq kl15 hl7)) hS14 ?_
     refine RH.stI 15 (by kernel_rfl) hm11 0 rfl ke15 kl15 rfl rfl sizeOf118 rfl rfl rfl (vs:=[Str (z12.Key),Str (z12.Val)]) rfl (⟨_,_,rfl,⟨rfl,trivial⟩,⟨rfl,trivial⟩⟩) ?_;intro w16 hm16;refine ⟨trivial,?_⟩;obtain ⟨z17,e17,hM⟩:=zAb hM;obtain ⟨kk17,ke17,kz17,kl17⟩:=zGz e17;obtain ⟨vs17,hR17,hrel17⟩:=hm16.ownAtL 0 rfl kz17;obtain rfl:=zA.relE hrel17
     refine RH.here fun hS16=>RH.on 16 rfl (V.ixE kk17 underlying34 sizeOf118 rfl rfl ke17 (Nat.lt_of_lt_of_eq kl17 ((zBc _ _ _).trans hl7))) hS16 ?_
     refine RH.stI 17 (by kernel_rfl) hm16 0 rfl ke17 kl17 rfl rfl sizeOf118 rfl rfl rfl (vs:=[Str (z13.Key),Str (z13.Val)]) rfl (⟨_,_,rfl,⟨rfl,trivial⟩,⟨rfl,trivial⟩⟩) ?_;intro w18 hm18;refine ⟨trivial,?_⟩;refine RH.doneP (by kernel_rfl) ?_;refine gg 6 rfl ?_;exact hn9 ((zGq (zGq y7 y8 z12) (W64 (y8+1)) z13),(W64 (y8+1))) _ _ sA (⟨hm18.pk [0],((zBc _ _ _).trans ((zBc _ _ _).trans hl7))⟩) hM
    refine RH.here fun hS9=>RH.on 9 rfl (V.ldA (vs:=[_,_]) isAgg118 sizeOf118 rfl (Rd.pre hR12 2) rfl) hS9 ?_
    obtain ⟨z19,e19,hM⟩:=zAb hM;obtain ⟨kk19,ke19,kz19,kl19⟩:=zGz e19;obtain ⟨vs19,hR19,hrel19⟩:=hm11.ownAtL 0 rfl kz19;obtain rfl:=zA.relE hrel19
    refine RH.here fun hS14=>RH.on 14 rfl (V.ixE kk19 underlying34 sizeOf118 rfl rfl ke19 (Nat.lt_of_lt_of_eq kl19 hl7)) hS14 ?_
    refine RH.stI 15 (by kernel_rfl) hm11 0 rfl ke19 kl19 rfl rfl sizeOf118 rfl rfl rfl (vs:=[Str (z12.Key),Str (z12.Val)]) rfl (⟨_,_,rfl,⟨rfl,trivial⟩,⟨rfl,trivial⟩⟩) ?_;intro w20 hm20;refine ⟨trivial,?_⟩;obtain ⟨z21,e21,hM⟩:=zAb hM;obtain ⟨kk21,ke21,kz21,kl21⟩:=zGz e21;obtain ⟨vs21,hR21,hrel21⟩:=hm20.ownAtL 0 rfl kz21;obtain rfl:=zA.relE hrel21
    refine RH.here fun hS16=>RH.on 16 rfl (V.ixE kk21 underlying34 sizeOf118 rfl rfl ke21 (Nat.lt_of_lt_of_eq kl21 ((zBc _ _ _).trans hl7))) hS16 ?_
    refine RH.stI 17 (by kernel_rfl) hm20 0 rfl ke21 kl21 rfl rfl sizeOf118 rfl rfl rfl (vs:=[Str (z13.Key),Str (z13.Val)]) rfl (⟨_,_,rfl,⟨rfl,trivial⟩,⟨rfl,trivial⟩⟩) ?_;intro w22 hm22;refine ⟨trivial,?_⟩;refine RH.doneP (by kernel_rfl) ?_;refine gg 6 rfl ?_;exact hn9 ((zGq (zGq y7 y8 z12) (W64 (y8+1)) z13),(W64 (y8+1))) _ _ sA (⟨hm22.pk [0],((zBc _ _ _).trans ((zBc _ _ _).trans hl7))⟩) hM
   refine gg 1 rfl ?_;exact hk2 y7 _ _ (sb trivial) (⟨hm9.pk [0],hl7⟩) hM
  intro j1 hM hk1;refine gg 1 rfl ?_;refine Rn.loopF (G:=Int×Int) (fun g=>[(0,.slice A0 (x0).length c0),(1,iv x1),(4,.func (.func 213) #[] [].toArray),(10,iv (g.1)),(11,iv (g.2))]) (fun g w'=>Hp Z0 (LS [zBi 118 A0 c0 zA.rep x0]) w w' [zBi 118 A0 c0 zA.rep x0]) (fun n g=>zB8 x0 x1 j1 n g.1 g.2) fuel (x2,x3) sA (hm0.pk [0]) hM (fun _=>rfl) ?_;clear hM;rintro m25 ⟨y23,y24⟩ w25 hm25 hM hn25;replace hM:zB8 x0 x1 j1 (m25+1) y23 y24=some r:=hM;rw [zB8] at hM;refine gg 7 rfl ?_;refine aD hM (fun h26 hM=>?_) (fun h26 hM=>?_)
  ·refine gg 7 rfl (Rn.q rfl (V.cv64 underlying3 underlying137 rfl) (Rn.q rfl (V.sh64 rfl rfl _ 1 rfl rfl (zKm _ _ _ 1 (by decide))) (Rn.q rfl (V.cvW underlying137 underlying3 rfl) (gg 3 rfl ?_))));refine Rn.drawH rfl hm25 ?_;intro w27 hm27;refine dq [0,1,2] ?_;obtain ⟨z28,e28,hM⟩:=zAb hM;obtain ⟨kk28,ke28,kz28,kl28⟩:=zGz e28;obtain ⟨g28,vs28,hA28,hR28,hrel28⟩:=hm27.ownAt 0 rfl kz28;subst hA28;obtain rfl:=zA.relE hrel28;refine RH.tk 3 rfl (fun w' hDr=>V.ixE kk28 underlying34 sizeOf118 rfl rfl ke28 kl28) ?_;refine RH.tk 4 rfl (fun w' hDr=>V.ldA (vs:=[_,_]) isAgg118 sizeOf118 rfl (Rd.pre (hR28.ext hDr) 2) rfl) ?_;refine dq [5,6] ?_;obtain ⟨z29,e29,hM⟩:=zAb hM;obtain ⟨kk29,ke29,kz29,kl29⟩:=zGz e29;obtain ⟨vs29,hR29,hrel29⟩:=hm27.ownAtL 0 rfl kz29;obtain rfl:=zA.relE hrel29
   refine RH.here fun hS7=>RH.on 7 rfl (V.ixE kk29 underlying34 sizeOf118 rfl rfl ke29 kl29) hS7 ?_
   refine RH.here fun hS8=>RH.on 8 rfl (V.ldA (vs:=[_,_]) isAgg118 sizeOf118 rfl (Rd.pre hR29 2) rfl) hS8 ?_
   obtain ⟨p30,e30,hM⟩:=zAb hM;refine RH.clV (cK func213) 9 (by kernel_rfl) rfl rfl rfl rfl rfl (zF5 (Z0:=All) e30  :) ?_;rintro _ w30 ⟨rfl,hq30⟩;refine ⟨_,rfl,((Ext.refl _).trans hq30.fr),?_⟩;have hm31:=hm27.call0 hq30;refine dq [10] ?_;refine RH.doneP (by kernel_rfl) ?_;refine aD hM (fun h32 hM=>?_) (fun h32 hM=>?_)
   ·refine gg 6 rfl ?_;exact hn25 ((W64 ((W64 (((zAe (W64 (y23+y24)))>>>UInt64.ofNat 1).toNat:Int))+1)),y24) _ _ sA (hm31.pk [0]) hM
   refine gg 5 rfl ?_;exact hn25 (y23,(W64 (((zAe (W64 (y23+y24)))>>>UInt64.ofNat 1).toNat:Int))) _ _ sA (hm31.pk [0]) hM
  refine gg 1 rfl ?_;exact hk1 y23 _ _ sA (hm25.pk [0]) hM
 refine gg 9 rfl ?_;refine aD hM (fun h33 hM=>?_) (fun h33 hM=>?_)
 ·refine gg 11 rfl ?_;refine Rn.jG hm0 hM (G:=Int) (fun g=>[(0,.slice A0 (x0).length c0),(2,iv x2),(14,iv g)]) (fun g=>[zBi 118 A0 c0 zA.rep x0]) (fun j g=>j g) ?_ ?_
  ·rintro y34 w35 hm35 hM
   try dsimp only at hM
   refine gg 6 rfl ?_;obtain ⟨j4,hj4,hM⟩:=jnE hM;refine Rn.joinG (r:=r) (G:=(List zA)) (fun g=>[]) (fun g w'=>Hp Z0 (LS [zBi 118 A0 c0 zA.rep x0]) w w' [zBi 118 A0 c0 zA.rep g]∧g.length=(x0).length) (fun g=>j4 g) ?_ ?_
   ·subst hj4;clear hM;rintro y36 w37 ⟨hm37,hl36⟩ hM;replace hl36:y36.length=(x0).length:=hl36
    try dsimp only at hM
    refine Rn.ret0 func234 rfl ?_;obtain rfl:=zDt hM;exact ⟨rfl,hm37.pk [0],hl36⟩
   intro hk4;clear hj4;refine gg 1 rfl ?_;refine Rn.loopF (G:=(List zA)×Int) (fun g=>[(0,.slice A0 (x0).length c0),(14,iv y34),(17,iv (g.2))]) (fun g w'=>Hp Z0 (LS [zBi 118 A0 c0 zA.rep x0]) w w' [zBi 118 A0 c0 zA.rep (g.1)]∧(g.1).length=(x0).length) (fun n g=>zBn y34 j4 n g.1 g.2) fuel (x0,x2) sA (⟨hm35.pk [0],rfl⟩) hM (fun _=>rfl) ?_;clear hM;rintro m40 ⟨y38,y39⟩ w40 ⟨hm40,hl38⟩ hM hn40;replace hl38:y38.length=(x0).length:=hl38;replace hM:zBn y34 j4 (m40+1) y38 y39=some r:=hM;rw [zBn] at hM;refine gg 7 rfl ?_;refine aD hM (fun h41 hM=>?_) (fun h41 hM=>?_)
   ·refine gg 3 rfl ?_;refine Rn.drawX rfl hm40 ?_;intro w42 hm42;refine dq [0,1,2,3,4,5,6,7] ?_;obtain ⟨z43,e43,hM⟩:=zAb hM;obtain ⟨kk43,ke43,kz43,kl43⟩:=zGz e43;obtain ⟨g43,vs43,hA43,hR43,hrel43⟩:=hm42.ownAt 0 rfl kz43;subst hA43;obtain rfl:=zA.relE hrel43;refine RH.tk 8 rfl (fun w' hDr=>V.ixE kk43 underlying34 sizeOf118 rfl rfl ke43 (Nat.lt_of_lt_of_eq kl43 hl38)) ?_;refine dq [10,11] ?_;obtain ⟨z44,e44,hM⟩:=zAb hM;obtain ⟨kk44,ke44,kz44,kl44⟩:=zGz e44;obtain ⟨vs44,hR44,hrel44⟩:=hm42.ownAtL 0 rfl kz44;obtain rfl:=zA.relE hrel44;refine RH.tk 12 rfl (fun w' hDr=>V.ixE kk44 underlying34 sizeOf118 rfl rfl ke44 (Nat.lt_of_lt_of_eq kl44 hl38)) ?_;refine RH.two 9 13 (by kernel_rfl) rfl rfl rfl rfl (V.ldA (vs:=[_,_]) isAgg118 sizeOf118 rfl (Rd.pre hR43 2) rfl) rfl rfl rfl rfl (V.ldA (vs:=[_,_]) isAgg118 sizeOf118 rfl (Rd.pre hR44 2) rfl) ?_ ?_
    ·refine RH.here fun hS13=>RH.on 13 rfl (V.ldA (vs:=[_,_]) isAgg118 sizeOf118 rfl (Rd.pre hR44 2) rfl) hS13 ?_
     obtain ⟨z46,e46,hM⟩:=zAb hM;obtain ⟨kk46,ke46,kz46,kl46⟩:=zGz e46;obtain ⟨vs46,hR46,hrel46⟩:=hm42.ownAtL 0 rfl kz46;obtain rfl:=zA.relE hrel46
     refine RH.here fun hS14=>RH.on 14 rfl (V.ixE kk46 underlying34 sizeOf118 rfl rfl ke46 (Nat.lt_of_lt_of_eq kl46 hl38)) hS14 ?_
     refine RH.stI 15 (by kernel_rfl) hm42 0 rfl ke46 kl46 rfl rfl sizeOf118 rfl rfl rfl (vs:=[Str (z43.Key),Str (z43.Val)]) rfl (⟨_,_,rfl,⟨rfl,trivial⟩,⟨rfl,trivial⟩⟩) ?_;intro w47 hm47;refine ⟨trivial,?_⟩;obtain ⟨z48,e48,hM⟩:=zAb hM;obtain ⟨kk48,ke48,kz48,kl48⟩:=zGz e48;obtain ⟨vs48,hR48,hrel48⟩:=hm47.ownAtL 0 rfl kz48;obtain rfl:=zA.relE hrel48
     refine RH.here fun hS16=>RH.on 16 rfl (V.ixE kk48 underlying34 sizeOf118 rfl rfl ke48 (Nat.lt_of_lt_of_eq kl48 ((zBc _ _ _).trans hl38))) hS16 ?_
     refine RH.stI 17 (by kernel_rfl) hm47 0 rfl ke48 kl48 rfl rfl sizeOf118 rfl rfl rfl (vs:=[Str (z44.Key),Str (z44.Val)]) rfl (⟨_,_,rfl,⟨rfl,trivial⟩,⟨rfl,trivial⟩⟩) ?_;intro w49 hm49;refine ⟨trivial,?_⟩;refine RH.doneP (by kernel_rfl) ?_;refine gg 6 rfl ?_;exact hn40 ((zGq (zGq y38 y39 z43) (W64 (y39-1)) z44),(W64 (y39-1))) _ _ sA (⟨hm49.pk [0],((zBc _ _ _).trans ((zBc _ _ _).trans hl38))⟩) hM
    refine RH.here fun hS9=>RH.on 9 rfl (V.ldA (vs:=[_,_]) isAgg118 sizeOf118 rfl (Rd.pre hR43 2) rfl) hS9 ?_
    obtain ⟨z50,e50,hM⟩:=zAb hM;obtain ⟨kk50,ke50,kz50,kl50⟩:=zGz e50;obtain ⟨vs50,hR50,hrel50⟩:=hm42.ownAtL 0 rfl kz50;obtain rfl:=zA.relE hrel50
    refine RH.here fun hS14=>RH.on 14 rfl (V.ixE kk50 underlying34 sizeOf118 rfl rfl ke50 (Nat.lt_of_lt_of_eq kl50 hl38)) hS14 ?_
    refine RH.stI 15 (by kernel_rfl) hm42 0 rfl ke50 kl50 rfl rfl sizeOf118 rfl rfl rfl (vs:=[Str (z43.Key),Str (z43.Val)]) rfl (⟨_,_,rfl,⟨rfl,trivial⟩,⟨rfl,trivial⟩⟩) ?_;intro w51 hm51;refine ⟨trivial,?_⟩;obtain ⟨z52,e52,hM⟩:=zAb hM;obtain ⟨kk52,ke52,kz52,kl52⟩:=zGz e52;obtain ⟨vs52,hR52,hrel52⟩:=hm51.ownAtL 0 rfl kz52;obtain rfl:=zA.relE hrel52
    refine RH.here fun hS16=>RH.on 16 rfl (V.ixE kk52 underlying34 sizeOf118 rfl rfl ke52 (Nat.lt_of_lt_of_eq kl52 ((zBc _ _ _).trans hl38))) hS16 ?_
    refine RH.stI 17 (by kernel_rfl) hm51 0 rfl ke52 kl52 rfl rfl sizeOf118 rfl rfl rfl (vs:=[Str (z44.Key),Str (z44.Val)]) rfl (⟨_,_,rfl,⟨rfl,trivial⟩,⟨rfl,trivial⟩⟩) ?_;intro w53 hm53;refine ⟨trivial,?_⟩;refine RH.doneP (by kernel_rfl) ?_;refine gg 6 rfl ?_;exact hn40 ((zGq (zGq y38 y39 z43) (W64 (y39-1)) z44),(W64 (y39-1))) _ _ sA (⟨hm53.pk [0],((zBc _ _ _).trans ((zBc _ _ _).trans hl38))⟩) hM
   refine gg 1 rfl ?_;exact hk4 y38 _ _ (sb trivial) (⟨hm40.pk [0],hl38⟩) hM
  intro j3 hM hk3;refine gg 1 rfl ?_;refine Rn.loopF (G:=Int×Int) (fun g=>[(0,.slice A0 (x0).length c0),(2,iv x2),(4,.func (.func 213) #[] [].toArray),(14,iv (g.1)),(15,iv (g.2))]) (fun g w'=>Hp Z0 (LS [zBi 118 A0 c0 zA.rep x0]) w w' [zBi 118 A0 c0 zA.rep x0]) (fun n g=>zB7 x0 x2 j3 n g.1 g.2) fuel (x1,x2) sA (hm0.pk [0]) hM (fun _=>rfl) ?_;clear hM;rintro m56 ⟨y54,y55⟩ w56 hm56 hM hn56;replace hM:zB7 x0 x2 j3 (m56+1) y54 y55=some r:=hM;rw [zB7] at hM;refine gg 7 rfl ?_;refine aD hM (fun h57 hM=>?_) (fun h57 hM=>?_)
  ·refine gg 7 rfl (Rn.q rfl (V.cv64 underlying3 underlying137 rfl) (Rn.q rfl (V.sh64 rfl rfl _ 1 rfl rfl (zKm _ _ _ 1 (by decide))) (Rn.q rfl (V.cvW underlying137 underlying3 rfl) (gg 3 rfl ?_))));refine Rn.drawH rfl hm56 ?_;intro w58 hm58;refine dq [0,1,2] ?_;obtain ⟨z59,e59,hM⟩:=zAb hM;obtain ⟨kk59,ke59,kz59,kl59⟩:=zGz e59;obtain ⟨g59,vs59,hA59,hR59,hrel59⟩:=hm58.ownAt 0 rfl kz59;subst hA59;obtain rfl:=zA.relE hrel59;refine RH.tk 3 rfl (fun w' hDr=>V.ixE kk59 underlying34 sizeOf118 rfl rfl ke59 kl59) ?_;refine RH.tk 4 rfl (fun w' hDr=>V.ldA (vs:=[_,_]) isAgg118 sizeOf118 rfl (Rd.pre (hR59.ext hDr) 2) rfl) ?_;refine dq [5,6] ?_;obtain ⟨z60,e60,hM⟩:=zAb hM;obtain ⟨kk60,ke60,kz60,kl60⟩:=zGz e60;obtain ⟨vs60,hR60,hrel60⟩:=hm58.ownAtL 0 rfl kz60;obtain rfl:=zA.relE hrel60
   refine RH.here fun hS7=>RH.on 7 rfl (V.ixE kk60 underlying34 sizeOf118 rfl rfl ke60 kl60) hS7 ?_
   refine RH.here fun hS8=>RH.on 8 rfl (V.ldA (vs:=[_,_]) isAgg118 sizeOf118 rfl (Rd.pre hR60 2) rfl) hS8 ?_
   obtain ⟨p61,e61,hM⟩:=zAb hM;refine RH.clV (cK func213) 9 (by kernel_rfl) rfl rfl rfl rfl rfl (zF5 (Z0:=All) e61  :) ?_;rintro _ w61 ⟨rfl,hq61⟩;refine ⟨_,rfl,((Ext.refl _).trans hq61.fr),?_⟩;have hm62:=hm58.call0 hq61;refine dq [10] ?_
   refine RH.here fun hS11=>RH.on 11 rfl (V.notD rfl) hS11 ?_
   refine RH.doneP (by kernel_rfl) ?_;refine aD hM (fun h63 hM=>?_) (fun h63 hM=>?_)
   ·refine gg 6 rfl ?_;exact hn56 ((W64 ((W64 (((zAe (W64 (y54+y55)))>>>UInt64.ofNat 1).toNat:Int))+1)),y55) _ _ sA (hm62.pk [0]) hM
   refine gg 5 rfl ?_;exact hn56 (y54,(W64 (((zAe (W64 (y54+y55)))>>>UInt64.ofNat 1).toNat:Int))) _ _ sA (hm62.pk [0]) hM
  refine gg 1 rfl ?_;exact hk3 y54 _ _ sA (hm56.pk [0]) hM
 refine gg 6 rfl (Rn.q rfl (V.cv64 underlying3 underlying137 rfl) (Rn.q rfl (V.sh64 rfl rfl _ 1 rfl rfl (zKm _ _ _ 1 (by decide))) (Rn.q rfl (V.cvW underlying137 underlying3 rfl) (gg 21 rfl ?_))));refine Rn.jG hm0 hM (G:=Int×Int) (fun g=>[(0,.slice A0 (x0).length c0),(1,iv x1),(2,iv x2),(3,iv x3),(4,.func (.func 213) #[] [].toArray),(18,iv (W64 (((zAe (W64 (x1+x3)))>>>UInt64.ofNat 1).toNat:Int))),(19,iv (W64 ((W64 (((zAe (W64 (x1+x3)))>>>UInt64.ofNat 1).toNat:Int))+x2))),(20,iv (g.1)),(21,iv (g.2))]) (fun g=>[zBi 118 A0 c0 zA.rep x0]) (fun j g=>j g.1 g.2) ?_ ?_
 ·rintro ⟨y64,y65⟩ w66 hm66 hM
  try dsimp only at hM
  refine gg 7 rfl ?_;refine Rn.jG hm0 hM (G:=Int) (fun g=>[(0,.slice A0 (x0).length c0),(1,iv x1),(2,iv x2),(3,iv x3),(4,.func (.func 213) #[] [].toArray),(18,iv (W64 (((zAe (W64 (x1+x3)))>>>UInt64.ofNat 1).toNat:Int))),(19,iv (W64 ((W64 (((zAe (W64 (x1+x3)))>>>UInt64.ofNat 1).toNat:Int))+x2))),(20,iv g)]) (fun g=>[zBi 118 A0 c0 zA.rep x0]) (fun j g=>j g) ?_ ?_
  ·rintro y67 w68 hm68 hM
   try dsimp only at hM
   refine gg 14 rfl ?_;refine Rn.cutR [] [(0,.slice A0 (x0).length c0),(1,iv x1),(2,iv x2),(3,iv x3),(4,.func (.func 213) #[] [].toArray),(18,iv (W64 (((zAe (W64 (x1+x3)))>>>UInt64.ofNat 1).toNat:Int))),(20,iv y67),(24,iv (W64 ((W64 ((W64 (((zAe (W64 (x1+x3)))>>>UInt64.ofNat 1).toNat:Int))+x2))-y67))),(185,.bool (decide ((y67<x2)∧(x2<W64 ((W64 ((W64 (((zAe (W64 (x1+x3)))>>>UInt64.ofNat 1).toNat:Int))+x2))-y67)))))] (fun hk69=>?_) ?_
   ·refine Rn.partD (t:=181) rfl (fun h70=>?_) (fun h70=>?_)
    ·refine gg 4 rfl ?_;exact hk69 _ sA
    refine gg 4 rfl ?_;exact hk69 _ sA
   refine gg 1 rfl ?_;obtain ⟨j7,hj7,hM⟩:=jnE hM;refine Rn.joinG (r:=r) (G:=(List zA)) (fun g=>[(0,.slice A0 (x0).length c0),(1,iv x1),(3,iv x3),(4,.func (.func 213) #[] [].toArray),(18,iv (W64 (((zAe (W64 (x1+x3)))>>>UInt64.ofNat 1).toNat:Int))),(20,iv y67),(24,iv (W64 ((W64 ((W64 (((zAe (W64 (x1+x3)))>>>UInt64.ofNat 1).toNat:Int))+x2))-y67)))]) (fun g w'=>Hp Z0 (LS [zBi 118 A0 c0 zA.rep x0]) w w' [zBi 118 A0 c0 zA.rep g]∧g.length=(x0).length) (fun g=>j7 g) ?_ ?_
   ·subst hj7;clear hM;rintro y71 w72 ⟨hm72,hl71⟩ hM;replace hl71:y71.length=(x0).length:=hl71
    try dsimp only at hM
    refine gg 7 rfl ?_;refine Rn.cutR [] [(0,.slice A0 (x0).length c0),(1,iv x1),(3,iv x3),(4,.func (.func 213) #[] [].toArray),(18,iv (W64 (((zAe (W64 (x1+x3)))>>>UInt64.ofNat 1).toNat:Int))),(20,iv y67),(24,iv (W64 ((W64 ((W64 (((zAe (W64 (x1+x3)))>>>UInt64.ofNat 1).toNat:Int))+x2))-y67))),(199,.bool (decide ((x1<y67)∧(y67<W64 (((zAe (W64 (x1+x3)))>>>UInt64.ofNat 1).toNat:Int)))))] (fun hk73=>?_) ?_
    ·refine Rn.partD (t:=195) rfl (fun h74=>?_) (fun h74=>?_)
     ·refine gg 4 rfl ?_;exact hk73 _ sA
     refine gg 4 rfl ?_;exact hk73 _ sA
    refine gg 1 rfl ?_;refine Rn.jG hm0 hM (G:=Unit) (fun g=>[(0,.slice A0 (x0).length c0),(3,iv x3),(4,.func (.func 213) #[] [].toArray),(18,iv (W64 (((zAe (W64 (x1+x3)))>>>UInt64.ofNat 1).toNat:Int))),(24,iv (W64 ((W64 ((W64 (((zAe (W64 (x1+x3)))>>>UInt64.ofNat 1).toNat:Int))+x2))-y67)))]) (fun g=>[zBi 118 A0 c0 zA.rep y71]) (fun j g=>j ()) ?_ ?_
    ·rintro _ w75 hm75 hM
     try dsimp only at hM
     refine gg 6 rfl ?_;refine Rn.cutR [] [(0,.slice A0 (x0).length c0),(3,iv x3),(4,.func (.func 213) #[] [].toArray),(18,iv (W64 (((zAe (W64 (x1+x3)))>>>UInt64.ofNat 1).toNat:Int))),(24,iv (W64 ((W64 ((W64 (((zAe (W64 (x1+x3)))>>>UInt64.ofNat 1).toNat:Int))+x2))-y67))),(213,.bool (decide ((W64 (((zAe (W64 (x1+x3)))>>>UInt64.ofNat 1).toNat:Int)<W64 ((W64 ((W64 (((zAe (W64 (x1+x3)))>>>UInt64.ofNat 1).toNat:Int))+x2))-y67))∧(W64 ((W64 ((W64 (((zAe (W64 (x1+x3)))>>>UInt64.ofNat 1).toNat:Int))+x2))-y67)<x3))))] (fun hk76=>?_) ?_
     ·refine Rn.partD (t:=209) rfl (fun h77=>?_) (fun h77=>?_)
      ·refine gg 4 rfl ?_;exact hk76 _ sA
      refine gg 4 rfl ?_;exact hk76 _ sA
     refine gg 1 rfl ?_;refine aD hM (fun h78 hM=>?_) (fun h78 hM=>?_)
     ·cases hM
     refine gg 1 rfl ?_;refine Rn.end0 func234 rfl ?_;obtain rfl:=zDt hM;exact ⟨rfl,hm75.pk [0],hl71⟩
    intro j8 hM hk8;refine aD hM (fun h80 hM=>?_) (fun h80 hM=>?_)
    ·cases hM
    refine gg 1 rfl ?_;exact hk8 () _ _ sA (hm72.pk [0]) hM
   intro hk7;clear hj7;refine aD hM (fun h82 hM=>?_) (fun h82 hM=>?_)
   ·refine gg 6 rfl ?_;obtain ⟨p83,e83,hM⟩:=zAb hM;have hm84:=hm68.cu [] [0];refine Rn.cq (cK func235) (m_slices_rotateCmpFunc_api_Pair_s2_sim e83 hm84.lend :) ?_;rintro _ w83 ⟨rfl,hq83,hl83_0⟩;refine ⟨_,rfl,?_⟩;have hm86:=hm84.callAZ hq83;refine gg 1 rfl ?_;exact hk7 p83 _ _ sA (⟨hm86.pk [0],hl83_0⟩) hM
   refine gg 1 rfl ?_;exact hk7 x0 _ _ sA (⟨hm68.pk [0],rfl⟩) hM
  intro j6 hM hk6;refine gg 1 rfl ?_;refine Rn.loopF (G:=Int×Int) (fun g=>[(0,.slice A0 (x0).length c0),(1,iv x1),(2,iv x2),(3,iv x3),(4,.func (.func 213) #[] [].toArray),(18,iv (W64 (((zAe (W64 (x1+x3)))>>>UInt64.ofNat 1).toNat:Int))),(19,iv (W64 ((W64 (((zAe (W64 (x1+x3)))>>>UInt64.ofNat 1).toNat:Int))+x2))),(20,iv (g.1)),(21,iv (g.2)),(22,iv (W64 ((W64 ((W64 (((zAe (W64 (x1+x3)))>>>UInt64.ofNat 1).toNat:Int))+x2))-1)))]) (fun g w'=>Hp Z0 (LS [zBi 118 A0 c0 zA.rep x0]) w w' [zBi 118 A0 c0 zA.rep x0]) (fun n g=>zB6 x0 x1 x2 x3 j6 n g.1 g.2) fuel (y64,y65) sA (hm66.pk [0]) hM (fun _=>rfl) ?_;clear hM;rintro m89 ⟨y87,y88⟩ w89 hm89 hM hn89;replace hM:zB6 x0 x1 x2 x3 j6 (m89+1) y87 y88=some r:=hM;rw [zB6] at hM;refine gg 7 rfl ?_;refine aD hM (fun h90 hM=>?_) (fun h90 hM=>?_)
  ·refine gg 7 rfl (Rn.q rfl (V.cv64 underlying3 underlying137 rfl) (Rn.q rfl (V.sh64 rfl rfl _ 1 rfl rfl (zKm _ _ _ 1 (by decide))) (Rn.q rfl (V.cvW underlying137 underlying3 rfl) (gg 3 rfl ?_))));refine Rn.drawH rfl hm89 ?_;intro w91 hm91;refine dq [0,1,2,3,4] ?_;obtain ⟨z92,e92,hM⟩:=zAb hM;obtain ⟨kk92,ke92,kz92,kl92⟩:=zGz e92;obtain ⟨g92,vs92,hA92,hR92,hrel92⟩:=hm91.ownAt 0 rfl kz92;subst hA92;obtain rfl:=zA.relE hrel92;refine RH.tk 5 rfl (fun w' hDr=>V.ixE kk92 underlying34 sizeOf118 rfl rfl ke92 kl92) ?_;refine RH.tk 6 rfl (fun w' hDr=>V.ldA (vs:=[_,_]) isAgg118 sizeOf118 rfl (Rd.pre (hR92.ext hDr) 2) rfl) ?_;refine dq [7,8] ?_;obtain ⟨z93,e93,hM⟩:=zAb hM;obtain ⟨kk93,ke93,kz93,kl93⟩:=zGz e93;obtain ⟨vs93,hR93,hrel93⟩:=hm91.ownAtL 0 rfl kz93;obtain rfl:=zA.relE hrel93
   refine RH.here fun hS9=>RH.on 9 rfl (V.ixE kk93 underlying34 sizeOf118 rfl rfl ke93 kl93) hS9 ?_
   refine RH.here fun hS10=>RH.on 10 rfl (V.ldA (vs:=[_,_]) isAgg118 sizeOf118 rfl (Rd.pre hR93 2) rfl) hS10 ?_
   obtain ⟨p94,e94,hM⟩:=zAb hM;refine RH.clV (cK func213) 11 (by kernel_rfl) rfl rfl rfl rfl rfl (zF5 (Z0:=All) e94  :) ?_;rintro _ w94 ⟨rfl,hq94⟩;refine ⟨_,rfl,((Ext.refl _).trans hq94.fr),?_⟩;have hm95:=hm91.call0 hq94;refine dq [12] ?_
   refine RH.here fun hS13=>RH.on 13 rfl (V.notD rfl) hS13 ?_
   refine RH.doneP (by kernel_rfl) ?_;refine aD hM (fun h96 hM=>?_) (fun h96 hM=>?_)
   ·refine gg 6 rfl ?_;exact hn89 ((W64 ((W64 (((zAe (W64 (y87+y88)))>>>UInt64.ofNat 1).toNat:Int))+1)),y88) _ _ sA (hm95.pk [0]) hM
   refine gg 5 rfl ?_;exact hn89 (y87,(W64 (((zAe (W64 (y87+y88)))>>>UInt64.ofNat 1).toNat:Int))) _ _ sA (hm95.pk [0]) hM
  refine gg 1 rfl ?_;exact hk6 y87 _ _ sA (hm89.pk [0]) hM
 intro j5 hM hk5;refine aD hM (fun h97 hM=>?_) (fun h97 hM=>?_)
 ·refine gg 11 rfl ?_;exact hk5 ((W64 ((W64 ((W64 (((zAe (W64 (x1+x3)))>>>UInt64.ofNat 1).toNat:Int))+x2))-x3)),(W64 (((zAe (W64 (x1+x3)))>>>UInt64.ofNat 1).toNat:Int))) _ _ sA (hm0.pk [0]) hM
 refine gg 9 rfl ?_;exact hk5 (x1,x2) _ _ sA (hm0.pk [0]) hM
theorem m_slices_stableCmpFunc_api_Pair_s1_sim {x0:(List zA)} {x1:Int} {r:(List zA)} (hM:zCf x0 x1=some r) (hL:zIg Z0 w [zBi 118 A0 c0 zA.rep x0]) :
 Calls prog 231 #[.slice A0 (x0).length c0,iv x1,.func (.func 213) #[] [].toArray] w fun x w'=>x=.returned (.tuple #[])∧Hp Z0 (LS [zBi 118 A0 c0 zA.rep x0]) w w' [zBi 118 A0 c0 zA.rep r]∧(r).length=(x0).length:=by
 have hm0:=hL.start;refine Rn.en func231 ?_;refine gg 11 rfl ?_;obtain ⟨j1,hj1,hM⟩:=jnE hM;refine Rn.joinG (r:=r) (G:=(List zA)×Int) (fun g=>[(0,.slice A0 (x0).length c0),(1,iv x1),(2,.func (.func 213) #[] [].toArray),(6,iv 20),(7,iv (g.2))]) (fun g w'=>Hp Z0 (LS [zBi 118 A0 c0 zA.rep x0]) w w' [zBi 118 A0 c0 zA.rep (g.1)]∧(g.1).length=(x0).length) (fun g=>j1 g.1 g.2) ?_ ?_
 ·subst hj1;clear hM;rintro ⟨y2,y3⟩ w4 ⟨hm4,hl2⟩ hM;replace hl2:y2.length=(x0).length:=hl2
  try dsimp only at hM
  refine gg 6 rfl ?_;refine Rn.say (t:=0) (.slice A0 (y2).length c0) rfl (congrArg (fun (n0:Nat)=>Value.slice A0 n0 c0) (show (x0).length=(y2).length from (hl2).symm.trans (rfl))) ?_;refine Rn.say (t:=23) (.slice A0 (y2).length c0) rfl (congrArg (fun (n0:Nat)=>Value.slice A0 n0 c0) (show (x0).length=(y2).length from (hl2).symm.trans (rfl))) ?_;obtain ⟨p5,e5,hM⟩:=zAb hM;have hm6:=hm4.cu [] [0];refine Rn.cq (cK func233) (m_slices_insertionSortCmpFunc_api_Pair_s2_sim e5 hm6.lend :) ?_;rintro _ w5 ⟨rfl,hq5,hl5_0⟩;refine ⟨_,rfl,?_⟩;have hm8:=hm6.callAZ hq5;refine gg 1 rfl ?_;obtain ⟨j2,hj2,hM⟩:=jnE hM;refine Rn.joinG (r:=r) (G:=(List zA)) (fun g=>[]) (fun g w'=>Hp Z0 (LS [zBi 118 A0 c0 zA.rep x0]) w w' [zBi 118 A0 c0 zA.rep g]∧g.length=(y2).length) (fun g=>j2 g) ?_ ?_
  ·subst hj2;clear hM;rintro y9 w10 ⟨hm10,hl9⟩ hM;replace hl9:y9.length=(y2).length:=hl9
   try dsimp only at hM
   refine Rn.end0 func231 rfl ?_;obtain rfl:=zDt hM;exact ⟨rfl,hm10.pk [0],(hl9.trans ((hl5_0).symm.trans ((hl5_0.trans hl2))))⟩
  intro hk2;clear hj2;refine gg 1 rfl ?_;refine Rn.loopF (G:=(List zA)×Int) (fun g=>[(0,.slice A0 (y2).length c0),(1,iv x1),(2,.func (.func 213) #[] [].toArray),(6,iv (g.2))]) (fun g w'=>Hp Z0 (LS [zBi 118 A0 c0 zA.rep x0]) w w' [zBi 118 A0 c0 zA.rep (g.1)]∧(g.1).length=(y2).length) (fun n g=>zB0 x1 j2 n g.1 g.2) fuel (p5,20) sA (⟨hm8.pk [0],hl5_0⟩) hM (fun _=>rfl) ?_;clear hM;rintro m13 ⟨y11,y12⟩ w13 ⟨hm13,hl11⟩ hM hn13;replace hl11:y11.length=(y2).length:=hl11;replace hM:zB0 x1 j2 (m13+1) y11 y12=some r:=hM;rw [zB0] at hM;refine gg 7 rfl ?_;refine aD hM (fun h14 hM=>?_) (fun h14 hM=>?_)
  ·refine gg 10 rfl ?_;obtain ⟨j3,hj3,hM⟩:=jnE hM;refine Rn.joinG (r:=r) (G:=(List zA)×Int) (fun g=>[(0,.slice A0 (y2).length c0),(1,iv x1),(2,.func (.func 213) #[] [].toArray),(6,iv y12),(7,iv (g.2))]) (fun g w'=>Hp Z0 (LS [zBi 118 A0 c0 zA.rep x0]) w w' [zBi 118 A0 c0 zA.rep (g.1)]∧(g.1).length=(y2).length) (fun g=>j3 g.1 g.2) ?_ ?_
   ·subst hj3;clear hM;rintro ⟨y15,y16⟩ w17 ⟨hm17,hl15⟩ hM;replace hl15:y15.length=(y2).length:=hl15
    try dsimp only at hM
    refine gg 14 rfl ?_;obtain ⟨j4,hj4,hM⟩:=jnE hM;refine Rn.joinG (r:=r) (G:=(List zA)) (fun g=>[(0,.slice A0 (y2).length c0),(1,iv x1),(2,.func (.func 213) #[] [].toArray),(6,iv y12)]) (fun g w'=>Hp Z0 (LS [zBi 118 A0 c0 zA.rep x0]) w w' [zBi 118 A0 c0 zA.rep g]∧g.length=(y2).length) (fun g=>j4 g) ?_ ?_
    ·subst hj4;clear hM;rintro y18 w19 ⟨hm19,hl18⟩ hM;replace hl18:y18.length=(y2).length:=hl18
     try dsimp only at hM
     refine gg 6 rfl ?_;exact hn13 (y18,(W64 (y12*2))) _ _ sA (⟨hm19.pk [0],hl18⟩) hM
    intro hk4;clear hj4;refine aD hM (fun h20 hM=>?_) (fun h20 hM=>?_)
    ·refine gg 6 rfl ?_;refine Rn.say (t:=0) (.slice A0 (y15).length c0) rfl (congrArg (fun (n0:Nat)=>Value.slice A0 n0 c0) (show (y2).length=(y15).length from (hl15).symm.trans (rfl))) ?_;refine Rn.say (t:=55) (.slice A0 (y15).length c0) rfl (congrArg (fun (n0:Nat)=>Value.slice A0 n0 c0) (show (y2).length=(y15).length from (hl15).symm.trans (rfl))) ?_;obtain ⟨p21,e21,hM⟩:=zAb hM;have hm22:=hm17.cu [] [0];refine Rn.cq (cK func234) (m_slices_symMergeCmpFunc_api_Pair_s2_sim e21 hm22.lend :) ?_;rintro _ w21 ⟨rfl,hq21,hl21_0⟩;refine ⟨_,rfl,?_⟩;have hm24:=hm22.callAZ hq21;refine gg 1 rfl ?_;refine Rn.say (t:=0) (.slice A0 (y2).length c0) rfl (congrArg (fun (n0:Nat)=>Value.slice A0 n0 c0) (show (y15).length=(y2).length from (hl21_0).symm.trans ((hl21_0.trans hl15)))) ?_;exact hk4 p21 _ _ sA (⟨hm24.pk [0],(hl21_0.trans hl15)⟩) hM
    refine gg 1 rfl ?_;exact hk4 y15 _ _ sA (⟨hm17.pk [0],hl15⟩) hM
   intro hk3;clear hj3;refine gg 1 rfl ?_;refine Rn.loopF (G:=(List zA)×Int×Int) (fun g=>[(0,.slice A0 (y2).length c0),(1,iv x1),(2,.func (.func 213) #[] [].toArray),(6,iv y12),(7,iv (g.2.1)),(8,iv (g.2.2))]) (fun g w'=>Hp Z0 (LS [zBi 118 A0 c0 zA.rep x0]) w w' [zBi 118 A0 c0 zA.rep (g.1)]∧(g.1).length=(y2).length) (fun n g=>zBq x1 y12 j3 n g.1 g.2.1 g.2.2) fuel (y11,0,(W64 (2*y12))) sA (⟨hm13.pk [0],hl11⟩) hM (fun _=>rfl) ?_;clear hM;rintro m28 ⟨y25,y26,y27⟩ w28 ⟨hm28,hl25⟩ hM hn28;replace hl25:y25.length=(y2).length:=hl25;replace hM:zBq x1 y12 j3 (m28+1) y25 y26 y27=some r:=hM;rw [zBq] at hM;refine gg 7 rfl ?_;refine aD hM (fun h29 hM=>?_) (fun h29 hM=>?_)
   ·refine gg 11 rfl ?_;refine Rn.say (t:=0) (.slice A0 (y25).length c0) rfl (congrArg (fun (n0:Nat)=>Value.slice A0 n0 c0) (show (y2).length=(y25).length from (hl25).symm.trans (rfl))) ?_;refine Rn.say (t:=36) (.slice A0 (y25).length c0) rfl (congrArg (fun (n0:Nat)=>Value.slice A0 n0 c0) (show (y2).length=(y25).length from (hl25).symm.trans (rfl))) ?_;obtain ⟨p30,e30,hM⟩:=zAb hM;have hm31:=hm28.cu [] [0];refine Rn.cq (cK func234) (m_slices_symMergeCmpFunc_api_Pair_s2_sim e30 hm31.lend :) ?_;rintro _ w30 ⟨rfl,hq30,hl30_0⟩;refine ⟨_,rfl,?_⟩;have hm33:=hm31.callAZ hq30;refine gg 14 rfl ?_;refine Rn.say (t:=0) (.slice A0 (y2).length c0) rfl (congrArg (fun (n0:Nat)=>Value.slice A0 n0 c0) (show (y25).length=(y2).length from (hl30_0).symm.trans ((hl30_0.trans hl25)))) ?_;exact hn28 (p30,y27,(W64 (y27+(W64 (2*y12))))) _ _ sA (⟨hm33.pk [0],(hl30_0.trans hl25)⟩) hM
   refine gg 1 rfl ?_;exact hk3 (y25,y26) _ _ sA (⟨hm28.pk [0],hl25⟩) hM
  refine gg 1 rfl ?_;exact hk2 y11 _ _ (sb trivial) (⟨hm13.pk [0],hl11⟩) hM
 intro hk1;clear hj1;refine gg 1 rfl ?_;refine Rn.loopF (G:=(List zA)×Int×Int) (fun g=>[(0,.slice A0 (x0).length c0),(1,iv x1),(2,.func (.func 213) #[] [].toArray),(6,iv 20),(7,iv (g.2.1)),(8,iv (g.2.2))]) (fun g w'=>Hp Z0 (LS [zBi 118 A0 c0 zA.rep x0]) w w' [zBi 118 A0 c0 zA.rep (g.1)]∧(g.1).length=(x0).length) (fun n g=>zB x1 j1 n g.1 g.2.1 g.2.2) fuel (x0,0,20) sA (⟨hm0.pk [0],rfl⟩) hM (fun _=>rfl) ?_;clear hM;rintro m37 ⟨y34,y35,y36⟩ w37 ⟨hm37,hl34⟩ hM hn37;replace hl34:y34.length=(x0).length:=hl34;replace hM:zB x1 j1 (m37+1) y34 y35 y36=some r:=hM;rw [zB] at hM;refine gg 7 rfl ?_;refine aD hM (fun h38 hM=>?_) (fun h38 hM=>?_)
 ·refine gg 8 rfl ?_;refine Rn.say (t:=0) (.slice A0 (y34).length c0) rfl (congrArg (fun (n0:Nat)=>Value.slice A0 n0 c0) (show (x0).length=(y34).length from (hl34).symm.trans (rfl))) ?_;refine Rn.say (t:=14) (.slice A0 (y34).length c0) rfl (congrArg (fun (n0:Nat)=>Value.slice A0 n0 c0) (show (x0).length=(y34).length from (hl34).symm.trans (rfl))) ?_;obtain ⟨p39,e39,hM⟩:=zAb hM;have hm40:=hm37.cu [] [0];refine Rn.cq (cK func233) (m_slices_insertionSortCmpFunc_api_Pair_s2_sim e39 hm40.lend :) ?_;rintro _ w39 ⟨rfl,hq39,hl39_0⟩;refine ⟨_,rfl,?_⟩;have hm42:=hm40.callAZ hq39;refine gg 13 rfl ?_;refine Rn.say (t:=0) (.slice A0 (x0).length c0) rfl (congrArg (fun (n0:Nat)=>Value.slice A0 n0 c0) (show (y34).length=(x0).length from (hl39_0).symm.trans ((hl39_0.trans hl34)))) ?_;exact hn37 (p39,y36,(W64 (y36+20))) _ _ sA (⟨hm42.pk [0],(hl39_0.trans hl34)⟩) hM
 refine gg 1 rfl ?_;exact hk1 (y34,y35) _ _ sA (⟨hm37.pk [0],hl34⟩) hM
theorem m_slices_SortStableFunc_api_Pair_api_Pair_s1_sim {x0:(List zA)} {r:(List zA)} (hM:zC2 x0=some r) (hL:zIg Z0 w [zBi 118 A0 c0 zA.rep x0]) :
 Calls prog 212 #[.slice A0 (x0).length c0,.func (.func 213) #[] [].toArray] w fun x w'=>x=.returned (.tuple #[])∧Hp Z0 (LS [zBi 118 A0 c0 zA.rep x0]) w w' [zBi 118 A0 c0 zA.rep r]∧(r).length=(x0).length:=by
 have hm0:=hL.start;refine Rn.en func212 ?_;refine gg 3 rfl (Rn.q rfl (V.lenV underlying34 rfl) (gg 1 rfl ?_));obtain ⟨p2,e2,hM⟩:=zAb hM;have hm3:=hm0.cu [] [0];refine Rn.cq (cK func231) (m_slices_stableCmpFunc_api_Pair_s1_sim e2 hm3.lend :) ?_;rintro _ w2 ⟨rfl,hq2,hl2_0⟩;refine ⟨_,rfl,?_⟩;have hm5:=hm3.callAZ hq2;refine gg 1 rfl ?_;refine Rn.end0 func212 rfl ?_;obtain rfl:=zDt hM;exact ⟨rfl,hm5.pk [0],hl2_0⟩
theorem zMq {x0:(List zA)} {r:(List zA)} (hM:zI3 x0=some r) (f0:(slR A0 c0 zA.rep x0).H Z0 w) :
 Calls prog 172 #[.slice A0 (x0).length c0] w fun x w'=>∃ A_0_0 c_0_0,x=.returned (.slice A_0_0 (r).length c_0_0)∧Hp Z0 No w w' [zBi 118 A_0_0 c_0_0 zA.rep r]:=by
 have hm0:=Hp.nil Z0 No w;have hc0:=Calm.nil;obtain ⟨hm2,hc0⟩:=hm0.kn hc0 f0;refine Rn.en func172 ?_;refine gg 7 rfl ?_;obtain ⟨p3,e3,hM⟩:=zAb hM
 refine Rn.c2 (cK func89) (zEg (Z0:=All) e3 (zA7 (hm2.get 0 rfl)) :) fun A3_0_0 c3_0_0 w3 hq3=>?_
 have hm5:=hm2.callF (flC (zBf zA.flat _ _ _ _) fl0) hq3;refine gg 5 rfl ?_;obtain ⟨p6,e6,hM⟩:=zAb hM;have hm7:=hm5.cu [0] [1];refine Rn.cq (cK func212) (m_slices_SortStableFunc_api_Pair_api_Pair_s1_sim e6 hm7.lend :) ?_;rintro _ w6 ⟨rfl,hq6,hl6_0⟩;refine ⟨_,rfl,?_⟩;have hm9:=hm7.callAZ hq6;refine gg 6 rfl ?_;refine Rn.say (t:=2) (.slice A3_0_0 (p6).length c3_0_0) rfl (congrArg (fun (n0:Nat)=>Value.slice A3_0_0 n0 c3_0_0) (show (p3).length=(p6).length from (hl6_0).symm.trans (rfl))) ?_
 cases hM
 exact Rn.R1 func172 ⟨A3_0_0,c3_0_0,rfl,hm9.pk [1]⟩
theorem zO0 {x0:(List UInt8)} {x1:(List zA)} {r:((List UInt8)×Int)} (hM:zIc x0 x1=some r) (f0:(slR A1 c1 zA.rep x1).H Z0 w) :
 Calls prog 116 #[Str (x0),.slice A1 (x1).length c1] w fun x w'=>x=.returned (.tuple #[Str (r.1),iv r.2])∧Hp Z0 No w w' []:=by
 have hm0:=Hp.nil Z0 No w;have hc0:=Calm.nil;obtain ⟨hm2,hc0⟩:=hm0.kn hc0 f0;refine Rn.en func116 ?_;refine gg 10 rfl ?_;obtain ⟨p3,e3,hM⟩:=zAb hM
 refine Rn.c0 (cK func106) (zK3 (Z0:=All) e3 (zA7 (hm2.get 0 rfl)) :) hm2 fun w3 _ hm4=>?_
 refine gg 7 rfl ?_;refine aD hM (fun h5 hM=>?_) (fun h5 hM=>?_)
 ·refine gg 6 rfl ?_
  cases hM
  exact Rn.R2 func116 ⟨rfl,hm4.pk []⟩
 refine gg 3 rfl (Rn.alloc rfl rfl rfl Tryz.zeroValue226 rfl ?_);intro b6 w6 hb6 m6 e6;have hm8:=(hm4.addBox hb6 e6 m6).nf [_,zAh _ _ [_,_]] rfl;have hm9:Hp Z0 No w w6 [slR A1 c1 zA.rep x1,zWp 226 5 b6 none 0 ([]:List UInt8)]:=hm8.toBld 1 rfl;refine gg 4 rfl ?_;obtain ⟨z10,e10,hM⟩:=zAb hM;have hm11:=hm9.cu [0] [1]
 refine Rn.c2 (cK func171) (zZi _ _ _ _ _ x0 hm11.lend e10) fun A10 c10 w10 hq10=>?_
 have hm12:=hm11.callAZ hq10;refine gg 5 rfl ?_;obtain ⟨p13,e13,hM⟩:=zAb hM
 refine Rn.c2 (cK func172) (zMq (Z0:=All) e13 (zA7 (hm12.get 0 rfl)) :) fun A13_0_0 c13_0_0 w13 hq13=>?_
 have hm15:=hm12.callF (flC (zBf zA.flat _ _ _ _) fl0) hq13;refine Rn.q rfl (V.lenV underlying34 rfl) (gg 2 rfl ?_);refine Rn.jG hm0 hM (G:=(List UInt8)×Option Addr×Nat) (fun g=>[(7,pt b6 0)]) (fun g=>[zBi 118 A13_0_0 c13_0_0 zA.rep p13,zWp 226 5 b6 (g.2.1) (g.2.2) (g.1)]) (fun j g=>j g.1) ?_ ?_
 ·rintro ⟨y16,A17,c17⟩ w18 hm18 hM
  try dsimp only at hM
  refine gg 2 rfl ?_;have hm20:=hm18.cu [0] [1];refine Rn.cq (cK func173) (zb1 _ _ _ _ _ hm20.lend) ?_;rintro _ w19 ⟨rfl,hq19⟩;refine ⟨_,rfl,?_⟩;have hm21:=hm20.callAZ hq19;refine gg 3 rfl ?_
  cases hM
  exact Rn.R2 func116 ⟨rfl,hm21.pk []⟩
 intro j1 hM hk1;refine gg 1 rfl ?_;refine Rn.loopF (G:=Int×(List UInt8)×Option Addr×Nat) (fun g=>[(7,pt b6 0),(19,.slice A13_0_0 (p13).length c13_0_0),(20,iv (p13.length:Int)),(21,iv (g.1))]) (fun g w'=>Hp Z0 No w w' [zBi 118 A13_0_0 c13_0_0 zA.rep p13,zWp 226 5 b6 (g.2.2.1) (g.2.2.2) (g.2.1)]) (fun n g=>zCb p13 j1 n g.1 g.2.1) fuel (0,z10,A10,c10) sA (hm15.pk [2,1]) hM (fun _=>rfl) ?_;clear hM;rintro m25 ⟨y22,y23,A24,c24⟩ w25 hm25 hM hn25;replace hM:zCb p13 j1 (m25+1) y22 y23=some r:=hM;rw [zCb] at hM;refine gg 5 rfl ?_;refine aD hM (fun h26 hM=>?_) (fun h26 hM=>?_)
 ·refine gg 5 rfl ?_;obtain ⟨z27,e27,hM⟩:=zAb hM;obtain ⟨kk27,ke27,kz27,kl27⟩:=zGz e27;obtain ⟨g27,vs27,hA27,hR27,hrel27⟩:=hm25.ownAt 0 rfl kz27;subst hA27;obtain rfl:=zA.relE hrel27;refine Rn.q rfl (V.ixE kk27 underlying34 sizeOf118 rfl rfl ke27 kl27) (Rn.q rfl (V.ldA (vs:=[_,_]) isAgg118 sizeOf118 rfl (Rd.pre hR27 2) rfl) (Rn.als rfl rfl rfl Tryz.zeroValue118 rfl sizeOf118 rfl rfl rfl rfl (by first|exact zJg rfl|(simp [Value.oneCell'];done)) ?_));intro b28 w28 hb28 m28 e28;have hm30:=(hm25.addBox hb28 e28 m28).nf [_,_,zAh _ _ [_,_]] rfl;refine gg 3 rfl (Rn.q rfl (V.ldB isAgg9 rfl (hm30.get 2 rfl) rfl) ?_);obtain ⟨z31,e31,hM⟩:=zAb hM;refine Rn.q rfl (V.catZ rfl rfl e31) ?_;obtain ⟨z32,e32,hM⟩:=zAb hM;refine Rn.q rfl (V.catZ rfl rfl e32) (gg 1 rfl (Rn.q rfl (V.ldB isAgg9 rfl (hm30.get 2 rfl) rfl) ?_));obtain ⟨z33,e33,hM⟩:=zAb hM;refine Rn.q rfl (V.catZ rfl rfl e33) ?_;obtain ⟨z34,e34,hM⟩:=zAb hM;have hm35:=hm30.cu [0,2] [1]
  refine Rn.c2 (cK func171) (zZi _ _ _ _ _ z33 hm35.lend e34) fun A34 c34 w34 hq34=>?_
  have hm36:=hm35.callAZ hq34;refine gg 6 rfl ?_;exact hn25 ((W64 (y22+1)),z34,A34,c34) _ _ sA (hm36.pk [0,2]) hM
 refine gg 1 rfl ?_;exact hk1 (y23,A24,c24) _ _ sA (hm25.pk [0,1]) hM
theorem zP0 {x0:Bool} {r:Int} (hM:zKh x0=some r)  :
 Calls prog 117 #[.bool (x0)] w fun x w'=>x=.returned (iv r)∧Hp Z0 No w w' []:=by
 have hm0:=Hp.nil Z0 No w;have hc0:=Calm.nil;refine Rn.en func117 ?_;refine gg 9 rfl ?_;refine aS hM (fun h1 hM=>?_) (fun h1 hM=>?_)
 ·refine gg 4 rfl ?_
  cases hM
  exact Rn.R1 func117 ⟨rfl,hm0.pk []⟩
 refine gg 5 rfl ?_
 cases hM
 exact Rn.R1 func117 ⟨rfl,hm0.pk []⟩
theorem zL8 {x0:zA6} {r:((List UInt8)×Int)} (hM:zJ0 x0=some r) (h0:zA6.rep.rel Z0 w cs0 x0) :
 Calls prog 60 #[.agg cs0.toArray] w fun x w'=>x=.returned (.tuple #[Str (r.1),iv r.2])∧Hp Z0 No w w' []:=by
 have hm0:=Hp.nil Z0 No w;have hc0:=Calm.nil;obtain ⟨Ar1,cr1,Ar3,cr3,Ar5,cr5,rfl,fs1,fs3,fs5⟩:=zA6.relE h0;obtain ⟨hm7,hc0⟩:=hm0.kn (r:=slR Ar1 cr1 zA.rep x0.Attrs) hc0 fs1;obtain ⟨hm8,hc0⟩:=hm7.kn (r:=slR Ar3 cr3 zAq x0.Hist.Pos.Counts) hc0 fs3;obtain ⟨hm9,hc0⟩:=hm8.kn (r:=slR Ar5 cr5 zAq x0.Hist.Neg.Counts) hc0 fs5;refine Rn.en func60 ?_;refine gg 2 rfl (Rn.box rfl rfl rfl rfl rfl ?_);intro b10 w10 hb10 m10 e10;have hm12:=(hm9.addBox hb10 e10 m10).nf [_,_,_,zAh _ _ [_,_,_,_,_,_,_,_,_,_,_,_,_,_,_,_,_]] rfl;refine gg 6 rfl (Rn.q rfl (V.ldBA [_,_,_,_,_,_,_,_,_,_,_,_,_,_,_,_,_] isAgg42 sizeOf42 rfl (hm12.get 3 rfl) rfl rfl) ?_);obtain ⟨p13,e13,hM⟩:=zAb hM
 refine Rn.c0 (cK func57) (zHp (Z0:=All) e13 (show zA6.rep.rel All _ _ _ from ⟨_,_,rfl,⟨rfl,trivial⟩,⟨_,_,rfl,⟨_,_,rfl,(zA7 (hm12.get 0 rfl)).1,(zA7 (hm12.get 0 rfl)).2.1,(zA7 (hm12.get 0 rfl)).2.2⟩,⟨_,_,rfl,⟨rfl,trivial⟩,⟨_,_,rfl,⟨rfl,trivial⟩,⟨_,_,rfl,⟨rfl,trivial⟩,⟨_,_,rfl,⟨rfl,trivial⟩,⟨_,_,rfl,⟨rfl,trivial⟩,⟨_,_,rfl,⟨rfl,trivial⟩,⟨_,_,rfl,⟨rfl,trivial⟩,⟨_,_,rfl,⟨rfl,trivial⟩,⟨_,_,rfl,⟨_,_,rfl,⟨rfl,trivial⟩,⟨_,_,rfl,⟨rfl,trivial⟩,⟨_,_,rfl,⟨_,_,rfl,⟨rfl,trivial⟩,⟨_,_,rfl,(zA7 (hm12.get 1 rfl)).1,(zA7 (hm12.get 1 rfl)).2.1,(zA7 (hm12.get 1 rfl)).2.2⟩⟩,⟨_,_,rfl,⟨rfl,trivial⟩,⟨_,_,rfl,(zA7 (hm12.get 2 rfl)).1,(zA7 (hm12.get 2 rfl)).2.1,(zA7 (hm12.get 2 rfl)).2.2⟩⟩⟩⟩⟩,⟨rfl,trivial⟩⟩⟩⟩⟩⟩⟩⟩⟩⟩⟩⟩) :) hm12 fun w13 _ hm14=>?_
 refine gg 7 rfl ?_;refine aD hM (fun h15 hM=>?_) (fun h15 hM=>?_)
 ·refine gg 6 rfl ?_
  cases hM
  exact Rn.R2 func60 ⟨rfl,hm14.pk []⟩
 refine gg 4 rfl (Rn.q rfl (V.ldB isAgg9 rfl (hm14.get 3 rfl) rfl) (gg 1 rfl (Rn.q rfl (V.ldB isAgg34 rfl (hm14.get 3 rfl) rfl) ?_)));obtain ⟨p16,e16,hM⟩:=zAb hM
 refine Rn.c0 (cK func116) (zO0 (Z0:=All) e16 (zA7 (hm14.get 0 rfl)) :) hm14 fun w16 _ hm17=>?_
 refine gg 7 rfl ?_;refine Rn.drawH rfl hm17 ?_;intro w18 hm18;refine dq [0] ?_;obtain ⟨z19,e19,hM⟩:=zAb hM;refine RH.tk 1 rfl (fun w' hDr=>V.catZ rfl rfl e19) ?_;refine dq [2] ?_;refine RH.tk 3 rfl (fun w' hDr=>V.ldB isAgg3 rfl ((hm18.ext hDr).get 3 rfl) rfl) ?_;refine dq [4] ?_;refine RH.tk 5 rfl (fun w' hDr=>V.cv8 underlying3 underlying5 rfl) ?_;refine dq [6] ?_;refine RH.tk 7 rfl (fun w' hDr=>V.ldB isAgg3 rfl ((hm18.ext hDr).get 3 rfl) rfl) ?_;refine dq [8] ?_;refine RH.tk 9 rfl (fun w' hDr=>V.cv8 underlying3 underlying5 rfl) ?_;refine dq [10] ?_
 refine RH.here fun hS11=>RH.on 11 rfl (V.ldB isAgg4 rfl (hm18.get 3 rfl) rfl) hS11 ?_
 obtain ⟨p20,e20,hM⟩:=zAb hM;refine RH.cq (cK func117) 12 (zP0 (Z0:=All) e20  :) ?_;rintro _ w20 ⟨rfl,hq20⟩;refine ⟨_,rfl,((Ext.refl _).trans hq20.fr),?_⟩;have hm21:=hm18.call0 hq20;refine dq [13] ?_
 refine RH.here fun hS14=>RH.on 14 rfl (V.cv8 underlying3 underlying5 rfl) hS14 ?_
 refine RH.bslS 15 (by kernel_rfl) rfl rfl rfl underlying22 el5 rfl rfl rfl rfl (by first|exact szs rfl|(simp [Value.cells];done)) (by decide) ?_;intro b22 w22 hb22 m22 e22;have hm23:=hm21.addLit (rep:=zCn) (xs:=([zKv (W64 (48+x0.Kind)),zKv (W64 (48+x0.Temp)),zKv (W64 (48+p20))]:List UInt8)) (vss:=[[u8v (zKv (W64 (48+x0.Kind)))],[u8v (zKv (W64 (48+x0.Temp)))],[u8v (zKv (W64 (48+p20)))]]) hb22 e22 m22 rfl rfl rfl ((zMk (fun _ _=>⟨rfl,trivial⟩) (zMk (fun _ _=>⟨rfl,trivial⟩) (zMk (fun _ _=>⟨rfl,trivial⟩) zVb))));refine ⟨(((Ext.refl _).trans hq20.fr).trans e22),?_⟩
 refine RH.here fun hS16=>RH.on 16 rfl (V.b2s underlying22 underlying9 underlying5 rfl rfl (Own.sl (hm23.get 4 rfl))) hS16 ?_
 obtain ⟨z25,e25,hM⟩:=zAb hM
 refine RH.here fun hS17=>RH.on 17 rfl (V.catZ rfl rfl e25) hS17 ?_
 refine dq [18,19] ?_;refine RH.doneP (by kernel_rfl) ?_
 cases hM
 exact Rn.R2 func60 ⟨rfl,hm23.pk []⟩
theorem zLe  {r:zA2} (hM:zHz  = some r)  :
 Calls prog 61 #[] w fun x w'=>∃ F_0 b_0,x=.returned (pt b_0 0)∧Hp Z0 No w w' [zA2.obj F_0 b_0 r]:=by
 have hm0:=Hp.nil Z0 No w;have hc0:=Calm.nil;refine Rn.en func61 ?_;refine gg 6 rfl (Rn.q rfl (V.bldS (cs:=[_,_]) st172 rfl rfl) (Rn.box rfl rfl rfl rfl rfl ?_));intro b1 w1 hb1 m1 e1;have hm3:=(hm0.addBox hb1 e1 m1).nf [zAh _ _ [_,_]] rfl;refine gg 2 rfl ?_;have hm4:=hm3.addNil 5 zCn;have hm7:=hm4.cu [] [0,1];obtain ⟨F6,hm6⟩:=hm7.fold (zA2.sh b1 ({ b:=([]:List UInt8),n:=0 }:zA2)) ⟨none,0,rfl⟩
 cases hM
 exact Rn.R1 func61 ⟨F6,b1,rfl,hm6.pk [0]⟩
theorem zGb  {r:zA8} (hM:zFj  = some r)  :
 Calls prog 79 #[] w fun x w'=>∃ b_0,x=.returned (pt b_0 0)∧Hp Z0 No w w' [zAh b_0 186 [iv r.n,zAl r.last,zAl r.step]]:=by
 have hm0:=Hp.nil Z0 No w;have hc0:=Calm.nil;refine Rn.en func79 ?_;refine gg 6 rfl (Rn.q rfl (V.bldS (cs:=[_,_,_]) st186 rfl rfl) (Rn.box rfl rfl rfl rfl rfl ?_));intro b1 w1 hb1 m1 e1;have hm3:=(hm0.addBox hb1 e1 m1).nf [zAh _ _ [_,_,_]] rfl;refine gg 2 rfl ?_
 cases hM
 exact Rn.R1 func79 ⟨b1,rfl,hm3.pk [0]⟩
theorem zKp  {r:zAg} (hM:zI8  = some r)  :
 Calls prog 80 #[] w fun x w'=>∃ b_0,x=.returned (pt b_0 0)∧Hp Z0 No w w' [zAh b_0 190 [iv r.n,zAl r.last,iv r.win.ahead,iv r.win.size]]:=by
 have hm0:=Hp.nil Z0 No w;have hc0:=Calm.nil;refine Rn.en func80 ?_;refine gg 6 rfl (Rn.q rfl (V.bldS (cs:=[_,_,_,_]) st190 rfl rfl) (Rn.box rfl rfl rfl rfl rfl ?_));intro b1 w1 hb1 m1 e1;have hm3:=(hm0.addBox hb1 e1 m1).nf [zAh _ _ [_,_,_,_]] rfl;refine gg 2 rfl ?_
 cases hM
 exact Rn.R1 func80 ⟨b1,rfl,hm3.pk [0]⟩
theorem zLb  {r:zA4} (hM:zGg  = some r)  :
 Calls prog 81 #[] w fun x w'=>∃ F_0 b_0,x=.returned (pt b_0 0)∧Hp Z0 No w w' [zA4.obj F_0 b_0 r]:=by
 have hm0:=Hp.nil Z0 No w;have hc0:=Calm.nil;refine Rn.en func81 ?_;refine gg 6 rfl (Rn.q rfl (V.bldS (cs:=[_,_,_,_,_,_,_]) zby rfl rfl) (Rn.box rfl rfl rfl rfl rfl ?_));intro b1 w1 hb1 m1 e1;have hm3:=(hm0.addBox hb1 e1 m1).nf [zAh _ _ [_,_,_,_,_,_,_]] rfl;refine gg 2 rfl ?_;have hm4:=hm3.addNil 35 zAq;have hm6:=hm4.addNil 35 zAq;have hm9:=hm6.cu [] [0,1,2];obtain ⟨F8,hm8⟩:=hm9.fold (zA4.sh b1 ({ n:=0,last:=({ Scale:=0,Zero:=(0:UInt64),Pos:=({ Offset:=0,Counts:=([]:List UInt64) }:zA9),Neg:=({ Offset:=0,Counts:=([]:List UInt64) }:zA9) }:zA3) }:zA4)) ⟨none,0,none,0,rfl⟩
 cases hM
 exact Rn.R1 func81 ⟨F8,b1,rfl,hm8.pk [0]⟩
theorem zJb  {r:zAj} (hM:zFd  = some r)  :
 Calls prog 37 #[] w fun x w'=>∃ F_0_0 b_0_0 F_0_1 b_0_1 F_0_2 b_0_2 F_0_3 b_0_3 F_0_4 b_0_4 F_0_5 b_0_5 F_0_6 b_0_6,x=.returned (.agg [pt b_0_0 0,pt b_0_1 0,pt b_0_2 0,pt b_0_3 0,pt b_0_4 0,pt b_0_5 0,pt b_0_6 0].toArray)∧Hp Z0 No w w' [zA8.obj F_0_0 b_0_0 r.ords,zA8.obj F_0_1 b_0_1 r.times,zA8.obj F_0_2 b_0_2 r.spans,zA8.obj F_0_3 b_0_3 r.ints,zAg.obj F_0_4 b_0_4 r.re,zAg.obj F_0_5 b_0_5 r.im,zA4.obj F_0_6 b_0_6 r.hists]:=by
 have hm0:=Hp.nil Z0 No w;have hc0:=Calm.nil;refine Rn.en func37 ?_;refine gg 2 rfl (Rn.alloc rfl rfl rfl Tryz.zeroValue80 rfl ?_);intro b1 w1 hb1 m1 e1;have hm3:=(hm0.addBox hb1 e1 m1).nf [zAh _ _ [_,_,_,_,_,_,_]] rfl;refine gg 3 rfl ?_;obtain ⟨p4,e4,hM⟩:=zAb hM
 refine Rn.c1 (cK func79) (zGb (Z0:=All) e4  :) fun b4_0 w4 hq4=>?_
 have hm6:=hm3.callF (flC (zDl _ _ _) fl0) hq4;obtain ⟨p7,e7,hM⟩:=zAb hM
 refine Rn.c1 (cK func79) (zGb (Z0:=All) e7  :) fun b7_0 w7 hq7=>?_
 have hm9:=hm6.callF (flC (zDl _ _ _) fl0) hq7;obtain ⟨p10,e10,hM⟩:=zAb hM
 refine Rn.c1 (cK func79) (zGb (Z0:=All) e10  :) fun b10_0 w10 hq10=>?_
 have hm12:=hm9.callF (flC (zDl _ _ _) fl0) hq10;obtain ⟨p13,e13,hM⟩:=zAb hM
 refine Rn.c1 (cK func79) (zGb (Z0:=All) e13  :) fun b13_0 w13 hq13=>?_
 have hm15:=hm12.callF (flC (zDl _ _ _) fl0) hq13;obtain ⟨p16,e16,hM⟩:=zAb hM
 refine Rn.c1 (cK func80) (zKp (Z0:=All) e16  :) fun b16_0 w16 hq16=>?_
 have hm18:=hm15.callF (flC (zDl _ _ _) fl0) hq16;obtain ⟨p19,e19,hM⟩:=zAb hM
 refine Rn.c1 (cK func80) (zKp (Z0:=All) e19  :) fun b19_0 w19 hq19=>?_
 have hm21:=hm18.callF (flC (zDl _ _ _) fl0) hq19;obtain ⟨p22,e22,hM⟩:=zAb hM
 refine Rn.c2 (cK func81) (zLb (Z0:=All) e22  :) fun F22_0 b22_0 w22 hq22=>?_
 have hm24:=hm21.callF (flC ((zA4.oflat _ _ _)) fl0) hq22;refine Rn.q rfl (V.bldS (cs:=[_,_,_,_,_,_,_]) st80 rfl rfl) (Rn.sq rfl sizeOf80 rfl rfl (hm24.get 0 rfl) ?_);intro w25 m25 x25;have hm26:=(hm24.st 0 rfl x25 m25).nf [zAh _ _ [_,_,_,_,_,_,_],_,_,_,_,_,_,_] rfl;refine gg 1 rfl ?_;have hm28:=hm26.cu [0,2,3,4,5,6,7] [1];obtain ⟨F27,hm27⟩:=hm28.fold (zA8.sh b4_0 p4) rfl;have hm30:=hm27.cu [0,2,3,4,5,6,7] [1];obtain ⟨F29,hm29⟩:=hm30.fold (zA8.sh b7_0 p7) rfl;have hm32:=hm29.cu [0,2,3,4,5,6,7] [1];obtain ⟨F31,hm31⟩:=hm32.fold (zA8.sh b10_0 p10) rfl;have hm34:=hm31.cu [0,2,3,4,5,6,7] [1];obtain ⟨F33,hm33⟩:=hm34.fold (zA8.sh b13_0 p13) rfl;have hm36:=hm33.cu [0,2,3,4,5,6,7] [1];obtain ⟨F35,hm35⟩:=hm36.fold (zAg.sh b16_0 p16) rfl;have hm38:=hm35.cu [0,2,3,4,5,6,7] [1];obtain ⟨F37,hm37⟩:=hm38.fold (zAg.sh b19_0 p19) rfl;refine Rn.retG1 func37 rfl (rvC rfl isAgg80 sizeOf80 (hm26.get 0 rfl) rfl) ?_;obtain rfl:=zDt hM;exact ⟨F27,b4_0,F29,b7_0,F31,b10_0,F33,b13_0,F35,b16_0,F37,b19_0,F22_0,b22_0,rfl,hm37.pk [2,3,4,5,6,7,1]⟩
theorem zLc {x0:zA6} {x1:Int} {r:((Option zAc)×Int)} (hM:zJc x0 x1=some r) (h0:zA6.rep.rel Z0 w cs0 x0) :
 Calls prog 23 #[.agg cs0.toArray,iv x1] w fun x w'=>∃ F_0 b_0,x=.returned (.tuple #[.pointer (zWm b_0 r.1),iv r.2])∧Hp Z0 No w w' [zU0 r.1 (fun z=>zAc.obj F_0 b_0 z)]:=by
 have hm0:=Hp.nil Z0 No w;have hc0:=Calm.nil;obtain ⟨Ar1,cr1,Ar3,cr3,Ar5,cr5,rfl,fs1,fs3,fs5⟩:=zA6.relE h0;obtain ⟨hm7,hc0⟩:=hm0.kn (r:=slR Ar1 cr1 zA.rep x0.Attrs) hc0 fs1;obtain ⟨hm8,hc0⟩:=hm7.kn (r:=slR Ar3 cr3 zAq x0.Hist.Pos.Counts) hc0 fs3;obtain ⟨hm9,hc0⟩:=hm8.kn (r:=slR Ar5 cr5 zAq x0.Hist.Neg.Counts) hc0 fs5;refine Rn.en func23 ?_;refine gg 2 rfl (Rn.box rfl rfl rfl rfl rfl ?_);intro b10 w10 hb10 m10 e10;have hm12:=(hm9.addBox hb10 e10 m10).nf [_,_,_,zAh _ _ [_,_,_,_,_,_,_,_,_,_,_,_,_,_,_,_,_]] rfl;refine gg 5 rfl (Rn.q rfl (V.ldBA [_,_,_,_,_,_,_,_,_,_,_,_,_,_,_,_,_] isAgg42 sizeOf42 rfl (hm12.get 3 rfl) rfl rfl) ?_);obtain ⟨p13,e13,hM⟩:=zAb hM
 refine Rn.c0 (cK func60) (zL8 (Z0:=All) e13 (show zA6.rep.rel All _ _ _ from ⟨_,_,rfl,⟨rfl,trivial⟩,⟨_,_,rfl,⟨_,_,rfl,(zA7 (hm12.get 0 rfl)).1,(zA7 (hm12.get 0 rfl)).2.1,(zA7 (hm12.get 0 rfl)).2.2⟩,⟨_,_,rfl,⟨rfl,trivial⟩,⟨_,_,rfl,⟨rfl,trivial⟩,⟨_,_,rfl,⟨rfl,trivial⟩,⟨_,_,rfl,⟨rfl,trivial⟩,⟨_,_,rfl,⟨rfl,trivial⟩,⟨_,_,rfl,⟨rfl,trivial⟩,⟨_,_,rfl,⟨rfl,trivial⟩,⟨_,_,rfl,⟨rfl,trivial⟩,⟨_,_,rfl,⟨_,_,rfl,⟨rfl,trivial⟩,⟨_,_,rfl,⟨rfl,trivial⟩,⟨_,_,rfl,⟨_,_,rfl,⟨rfl,trivial⟩,⟨_,_,rfl,(zA7 (hm12.get 1 rfl)).1,(zA7 (hm12.get 1 rfl)).2.1,(zA7 (hm12.get 1 rfl)).2.2⟩⟩,⟨_,_,rfl,⟨rfl,trivial⟩,⟨_,_,rfl,(zA7 (hm12.get 2 rfl)).1,(zA7 (hm12.get 2 rfl)).2.1,(zA7 (hm12.get 2 rfl)).2.2⟩⟩⟩⟩⟩,⟨rfl,trivial⟩⟩⟩⟩⟩⟩⟩⟩⟩⟩⟩⟩) :) hm12 fun w13 _ hm14=>?_
 refine gg 12 rfl ?_;refine aD hM (fun h15 hM=>?_) (fun h15 hM=>?_)
 ·refine gg 6 rfl ?_;have hm17:=hm14.addNone (fun z=>zAc.obj No 0 z)
  cases hM
  exact Rn.R2 func23 ⟨No,0,rfl,hm17.pk [4]⟩
 refine gg 5 rfl ?_;obtain ⟨p18,e18,hM⟩:=zAb hM
 refine Rn.c2 (cK func61) (zLe (Z0:=All) e18  :) fun F18_0 b18_0 w18 hq18=>?_
 have hm20:=hm14.callF (flC ((zA2.oflat _ _ _)) fl0) hq18;obtain ⟨p21,e21,hM⟩:=zAb hM;refine Rn.cq (cK func37) (zJb (Z0:=All) e21  :) ?_;rintro _ w21 ⟨F21_0_0,b21_0_0,F21_0_1,b21_0_1,F21_0_2,b21_0_2,F21_0_3,b21_0_3,F21_0_4,b21_0_4,F21_0_5,b21_0_5,F21_0_6,b21_0_6,rfl,hq21⟩;refine ⟨_,rfl,?_⟩;have hm29:=hm20.callF (flC ((zA8.oflat _ _ _)) (flC ((zA8.oflat _ _ _)) (flC ((zA8.oflat _ _ _)) (flC ((zA8.oflat _ _ _)) (flC ((zAg.oflat _ _ _)) (flC ((zAg.oflat _ _ _)) (flC ((zA4.oflat _ _ _)) fl0))))))) hq21;replace hm29:=hm29.nq;refine Rn.q rfl (V.bldS (cs:=[_,_,_,_,_,_,_,_,_,_,_,_]) st122 rfl rfl) (Rn.box rfl rfl rfl rfl rfl ?_);intro b30 w30 hb30 m30 e30;have hm32:=(hm29.addBox hb30 e30 m30).nf [_,_,_,_,_,_,_,_,_,_,_,_,zAh _ _ [_,_,_,_,_,_,_,_,_,_,_,_]] rfl;refine gg 3 rfl ?_;have hm34:=hm32.cu [0,1,2,3] [12,4,5,6,7,8,9,10,11];obtain ⟨F33,hm33⟩:=hm34.fold (zAc.sh b30 ({ key:=p13.1,most:=x1,n:=0,last:=(-1),w:=p18,rows:=p21 }:zAc)) ⟨F18_0,b18_0,F21_0_0,b21_0_0,F21_0_1,b21_0_1,F21_0_2,b21_0_2,F21_0_3,b21_0_3,F21_0_4,b21_0_4,F21_0_5,b21_0_5,F21_0_6,b21_0_6,rfl⟩;have hm35:=hm33.toSome (R:=(fun z=>zAc.obj F33 b30 z)) 4 rfl
 cases hM
 exact Rn.R2 func23 ⟨F33,b30,rfl,hm35.pk [4]⟩
theorem zEs {x0:zA2} {r:Int} (hM:zDd x0=some r) (f0:(fzR (zA2.obj F0 b0 x0)).H Z0 w) :
 Calls prog 62 #[pt b0 0] w fun x w'=>x=.returned (iv r)∧Hp Z0 No w w' []:=by
 have hm0:=Hp.nil Z0 No w;have hc0:=Calm.nil;obtain ⟨hm2,hc0⟩:=hm0.kn hc0 f0;refine Rn.en func62 ?_;refine gg 9 rfl ?_;obtain ⟨_,⟨A3_0,c3_0,rfl⟩,hm3⟩:=hm2.unfz 0 rfl;replace hm3:=hm3.nq;have hm7:=hm3.fzSl 2 rfl;refine Rn.q rfl (V.ldB isAgg3 rfl (hm7.getz 1 rfl) rfl) (gg 2 rfl ?_)
 cases hM
 exact Rn.R1 func62 ⟨rfl,hm7.pk []⟩
theorem zF4 {b0 o0:Nat} {x0:zA8} {r:zA8} (hM:zEv x0=some r) (f0:(rdR b0 o0 [iv x0.n,zAl x0.last,zAl x0.step]).H Z0 w) :
 Calls prog 118 #[pt b0 o0] w fun x w'=>∃ b_0,x=.returned (pt b_0 0)∧Hp Z0 No w w' [zAh b_0 186 [iv r.n,zAl r.last,zAl r.step]]:=by
 have hm0:=Hp.nil Z0 No w;have hc0:=Calm.nil;obtain ⟨hm2,hc0⟩:=hm0.kn hc0 f0;refine Rn.en func118 ?_;refine gg 8 rfl (Rn.q rfl (V.ldA (vs:=[_,_,_]) isAgg186 sizeOf186 rfl (Rd.pre (hm2.get 0 rfl).2 3) rfl) (Rn.als rfl rfl rfl Tryz.zeroValue186 rfl sizeOf186 rfl rfl rfl rfl (by first|exact zJg rfl|(simp [Value.oneCell'];done)) ?_));intro b3 w3 hb3 m3 e3;have hm5:=(hm2.addBox hb3 e3 m3).nf [_,zAh _ _ [_,_,_]] rfl;refine gg 5 rfl ?_
 cases hM
 exact Rn.R1 func118 ⟨b3,rfl,hm5.pk [1]⟩
theorem zIz {b0 o0:Nat} {x0:zAg} {r:zAg} (hM:zH6 x0=some r) (f0:(rdR b0 o0 [iv x0.n,zAl x0.last,iv x0.win.ahead,iv x0.win.size]).H Z0 w) :
 Calls prog 119 #[pt b0 o0] w fun x w'=>∃ b_0,x=.returned (pt b_0 0)∧Hp Z0 No w w' [zAh b_0 190 [iv r.n,zAl r.last,iv r.win.ahead,iv r.win.size]]:=by
 have hm0:=Hp.nil Z0 No w;have hc0:=Calm.nil;obtain ⟨hm2,hc0⟩:=hm0.kn hc0 f0;refine Rn.en func119 ?_;refine gg 8 rfl (Rn.q rfl (V.ldA (vs:=[_,_,_,_]) isAgg190 sizeOf190 rfl (Rd.pre (hm2.get 0 rfl).2 4) rfl) (Rn.als rfl rfl rfl Tryz.zeroValue190 rfl sizeOf190 rfl rfl rfl rfl (by first|exact zJg rfl|(simp [Value.oneCell'];done)) ?_));intro b3 w3 hb3 m3 e3;have hm5:=(hm2.addBox hb3 e3 m3).nf [_,zAh _ _ [_,_,_,_]] rfl;refine gg 5 rfl ?_
 cases hM
 exact Rn.R1 func119 ⟨b3,rfl,hm5.pk [1]⟩
theorem zF1 {x0:(List UInt64)} {r:(List UInt64)} (hM:zCm x0=some r) (f0:(slR A0 c0 zAq x0).H Z0 w) :
 Calls prog 148 #[.slice A0 (x0).length c0] w fun x w'=>∃ A_0_0 c_0_0,x=.returned (.slice A_0_0 (r).length c_0_0)∧Hp Z0 No w w' [zBi 35 A_0_0 c_0_0 zAq r]:=by
 exact zW7 w A0 c0 x0 f0 hM
theorem zFr {x0:zA3} {r:zA3} (hM:zD6 x0=some r) (h0:zA3.rep.rel Z0 w cs0 x0) :
 Calls prog 90 #[.agg cs0.toArray] w fun x w'=>∃ A_0_0 c_0_0 A_0_1 c_0_1,x=.returned (.agg [iv r.Scale,zAl r.Zero,iv r.Pos.Offset,.slice A_0_0 (r.Pos.Counts).length c_0_0,iv r.Neg.Offset,.slice A_0_1 (r.Neg.Counts).length c_0_1].toArray)∧Hp Z0 No w w' [zBi 35 A_0_0 c_0_0 zAq r.Pos.Counts,zBi 35 A_0_1 c_0_1 zAq r.Neg.Counts]:=by
 have hm0:=Hp.nil Z0 No w;have hc0:=Calm.nil;obtain ⟨Ar1,cr1,Ar3,cr3,rfl,fs1,fs3⟩:=zA3.relE h0;obtain ⟨hm5,hc0⟩:=hm0.kn (r:=slR Ar1 cr1 zAq x0.Pos.Counts) hc0 fs1;obtain ⟨hm6,hc0⟩:=hm5.kn (r:=slR Ar3 cr3 zAq x0.Neg.Counts) hc0 fs3;refine Rn.en func90 ?_;refine gg 2 rfl (Rn.box rfl rfl rfl rfl rfl ?_);intro b7 w7 hb7 m7 e7;have hm9:=(hm6.addBox hb7 e7 m7).nf [_,_,zAh _ _ [_,_,_,_,_,_]] rfl;refine Rn.alloc rfl rfl rfl Tryz.zeroValue40 rfl ?_;intro b10 w10 hb10 m10 e10;have hm12:=(hm9.addBox hb10 e10 m10).nf [_,_,_,zAh _ _ [_,_,_,_,_,_]] rfl;refine gg 2 rfl ?_;refine Rn.drawK 10 rfl hm12 (by kernel_rfl) ?_;intro w13 hm13;refine dq [0,1] ?_;refine RH.tk 2 rfl (fun w' hDr=>V.ldB isAgg36 rfl ((hm13.ext hDr).get 2 rfl) rfl) ?_;refine dq [4,5] ?_;refine RH.tk 6 rfl (fun w' hDr=>V.ldB isAgg36 rfl ((hm13.ext hDr).get 2 rfl) rfl) ?_;obtain ⟨p14,e14,hM⟩:=zAb hM;refine RH.cq (cK func148) 3 (zF1 (Z0:=All) e14 (zA7 (hm13.get 0 rfl)) :) ?_;rintro _ w14 ⟨A14_0_0,c14_0_0,rfl,hq14⟩;refine ⟨_,rfl,((Ext.refl _).trans hq14.fr),?_⟩;have hm16:=hm13.callF (flC (zBf zDy _ _ _ _) fl0) hq14;refine dq [8,9] ?_;obtain ⟨p17,e17,hM⟩:=zAb hM;refine RH.cq (cK func148) 7 (zF1 (Z0:=All) e17 (zA7 (hm16.get 1 rfl)) :) ?_;rintro _ w17 ⟨A17_0_0,c17_0_0,rfl,hq17⟩;refine ⟨_,rfl,(((Ext.refl _).trans hq14.fr).trans hq17.fr),?_⟩;have hm19:=hm16.callF (flC (zBf zDy _ _ _ _) fl0) hq17;refine RG.tailK (by kernel_rfl) ?_;refine RH.st 10 (by kernel_rfl) rfl rfl sizeOf36 rfl rfl rfl rfl (by first|exact zJg rfl|(simp [Value.oneCell'];done)) (hm19.get 2 rfl) (by first|exact nbl rfl|(simp;done)) ?_;intro w20 m20 x20;have hm21:=(hm19.st 2 rfl x20 m20).nf [_,_,zAh _ _ [_,_,_,_,_,_],_,_,_] rfl;refine ⟨trivial,?_⟩;refine dq [11,12] ?_;refine RH.st 13 (by kernel_rfl) rfl rfl sizeOf36 rfl rfl rfl rfl (by first|exact zJg rfl|(simp [Value.oneCell'];done)) (hm21.get 2 rfl) (by first|exact nbl rfl|(simp;done)) ?_;intro w22 m22 x22;have hm23:=(hm21.st 2 rfl x22 m22).nf [_,_,zAh _ _ [_,_,_,_,_,_],_,_,_] rfl;refine ⟨trivial,?_⟩;refine RH.doneP (by kernel_rfl) ?_;refine gg 2 rfl (Rn.q rfl (V.ldBA [_,_,_,_,_,_] isAgg40 sizeOf40 rfl (hm23.get 2 rfl) rfl rfl) (Rn.sq rfl sizeOf40 rfl rfl (hm23.get 3 rfl) ?_));intro w24 m24 x24;have hm25:=(hm23.st 3 rfl x24 m24).nf [_,_,_,zAh _ _ [_,_,_,_,_,_],_,_] rfl;refine gg 1 rfl ?_;refine Rn.retG1 func90 rfl (rvC rfl isAgg40 sizeOf40 (hm25.get 3 rfl) rfl) ?_;obtain rfl:=zDt hM;exact ⟨A14_0_0,c14_0_0,A17_0_0,c17_0_0,rfl,hm25.pk [4,5]⟩
theorem zK4 {x0:zA4} {r:zA4} (hM:zGm x0=some r) (f0:(fzR (zA4.obj F0 b0 x0)).H Z0 w) :
 Calls prog 120 #[pt b0 0] w fun x w'=>∃ F_0 b_0,x=.returned (pt b_0 0)∧Hp Z0 No w w' [zA4.obj F_0 b_0 r]:=by
 have hm0:=Hp.nil Z0 No w;have hc0:=Calm.nil;obtain ⟨hm2,hc0⟩:=hm0.kn hc0 f0;refine Rn.en func120 ?_;refine gg 5 rfl ?_;obtain ⟨_,⟨A4_0,c4_0,A4_1,c4_1,rfl⟩,hm4⟩:=hm2.unfz 0 rfl;replace hm4:=hm4.nq;have hm10:=hm4.fzSl 2 rfl;have hm11:=hm10.fzSl 3 rfl;refine Rn.drawH rfl hm11 ?_;intro w3 hm3;refine dq [0,1,2] ?_;refine RH.tk 3 rfl (fun w' hDr=>V.ldB isAgg3 rfl ((hm3.ext hDr).getz 1 rfl) rfl) ?_;refine dq [4,5,6] ?_
 refine RH.here fun hS7=>RH.on 7 rfl (V.ldBA [_,_,_,_,_,_] isAgg40 sizeOf40 rfl (hm3.getz 1 rfl) rfl rfl) hS7 ?_
 obtain ⟨p12,e12,hM⟩:=zAb hM;refine RH.cq (cK func90) 8 (zFr (Z0:=All) e12 (show zA3.rep.rel All _ _ _ from ⟨_,_,rfl,⟨rfl,trivial⟩,⟨_,_,rfl,⟨rfl,trivial⟩,⟨_,_,rfl,⟨_,_,rfl,⟨rfl,trivial⟩,⟨_,_,rfl,(zA7 (hm3.get 4 rfl)).1,(zA7 (hm3.get 4 rfl)).2.1,(zA7 (hm3.get 4 rfl)).2.2⟩⟩,⟨_,_,rfl,⟨rfl,trivial⟩,⟨_,_,rfl,(zA7 (hm3.get 5 rfl)).1,(zA7 (hm3.get 5 rfl)).2.1,(zA7 (hm3.get 5 rfl)).2.2⟩⟩⟩⟩⟩) :) ?_;rintro _ w12 ⟨A12_0_0,c12_0_0,A12_0_1,c12_0_1,rfl,hq12⟩;refine ⟨_,rfl,((Ext.refl _).trans hq12.fr),?_⟩;have hm15:=hm3.callF (flC (zBf zDy _ _ _ _) (flC (zBf zDy _ _ _ _) fl0)) hq12
 refine RH.here fun hS9=>RH.on 9 rfl (V.bldS (cs:=[_,_,_,_,_,_,_]) zby rfl rfl) hS9 ?_
 refine RH.box 10 (by kernel_rfl) rfl rfl rfl rfl rfl ?_;intro b16 w16 hb16 m16 e16
 have hfr16:w3.heap.size≤b16:=by have hh:=(((Ext.refl _).trans hq12.fr):Ext w3 w12).size;omega
 have hm18:=(hm15.addBox hb16 e16 m16).nf [_,_,_,_,_,_,_,_,zAh _ _ [_,_,_,_,_,_,_]] rfl;refine ⟨(((Ext.refl _).trans hq12.fr).trans e16),?_⟩;refine dq [11] ?_;refine RH.doneP (by kernel_rfl) ?_;have hm20:=hm18.cu [0,1,2,3,4,5] [8,6,7];obtain ⟨F19,hm19⟩:=hm20.fold (zA4.sh b16 ({ n:=x0.n,last:=p12 }:zA4)) ⟨A12_0_0,c12_0_0,A12_0_1,c12_0_1,rfl⟩
 cases hM
 exact Rn.R1 func120 ⟨F19,b16,rfl,hm19.pk [6]⟩
theorem zFx {F0_ords:Nat→Prop} {b0_ords:Nat} {F0_times:Nat→Prop} {b0_times:Nat} {F0_spans:Nat→Prop} {b0_spans:Nat} {F0_ints:Nat→Prop} {b0_ints:Nat} {F0_re:Nat→Prop} {b0_re:Nat} {F0_im:Nat→Prop} {b0_im:Nat} {F0_hists:Nat→Prop} {b0_hists:Nat} {x0:zAj} {r:zAj} (hM:zG2 x0=some r) (f0:(fzR (zA8.obj F0_ords b0_ords x0.ords)).H Z0 w) (f1:(fzR (zA8.obj F0_times b0_times x0.times)).H Z0 w) (f2:(fzR (zA8.obj F0_spans b0_spans x0.spans)).H Z0 w) (f3:(fzR (zA8.obj F0_ints b0_ints x0.ints)).H Z0 w) (f4:(fzR (zAg.obj F0_re b0_re x0.re)).H Z0 w) (f5:(fzR (zAg.obj F0_im b0_im x0.im)).H Z0 w) (f6:(fzR (zA4.obj F0_hists b0_hists x0.hists)).H Z0 w) :
 Calls prog 63 #[.agg [pt b0_ords 0,pt b0_times 0,pt b0_spans 0,pt b0_ints 0,pt b0_re 0,pt b0_im 0,pt b0_hists 0].toArray] w fun x w'=>∃ F_0_0 b_0_0 F_0_1 b_0_1 F_0_2 b_0_2 F_0_3 b_0_3 F_0_4 b_0_4 F_0_5 b_0_5 F_0_6 b_0_6,x=.returned (.agg [pt b_0_0 0,pt b_0_1 0,pt b_0_2 0,pt b_0_3 0,pt b_0_4 0,pt b_0_5 0,pt b_0_6 0].toArray)∧Hp Z0 No w w' [zA8.obj F_0_0 b_0_0 r.ords,zA8.obj F_0_1 b_0_1 r.times,zA8.obj F_0_2 b_0_2 r.spans,zA8.obj F_0_3 b_0_3 r.ints,zAg.obj F_0_4 b_0_4 r.re,zAg.obj F_0_5 b_0_5 r.im,zA4.obj F_0_6 b_0_6 r.hists]:=by
 have hm0:=Hp.nil Z0 No w;have hc0:=Calm.nil;obtain ⟨hm8,hc0⟩:=hm0.kn hc0 f0;obtain ⟨hm9,hc0⟩:=hm8.kn hc0 f1;obtain ⟨hm10,hc0⟩:=hm9.kn hc0 f2;obtain ⟨hm11,hc0⟩:=hm10.kn hc0 f3;obtain ⟨hm12,hc0⟩:=hm11.kn hc0 f4;obtain ⟨hm13,hc0⟩:=hm12.kn hc0 f5;obtain ⟨hm14,hc0⟩:=hm13.kn hc0 f6;refine Rn.en func63 ?_;refine gg 2 rfl (Rn.box rfl rfl rfl rfl rfl ?_);intro b15 w15 hb15 m15 e15;have hm17:=(hm14.addBox hb15 e15 m15).nf [_,_,_,_,_,_,_,zAh _ _ [_,_,_,_,_,_,_]] rfl;refine Rn.alloc rfl rfl rfl Tryz.zeroValue80 rfl ?_;intro b18 w18 hb18 m18 e18;have hm20:=(hm17.addBox hb18 e18 m18).nf [_,_,_,_,_,_,_,_,zAh _ _ [_,_,_,_,_,_,_]] rfl;refine gg 2 rfl ?_;obtain ⟨_,rfl,hm22⟩:=hm20.unfz 0 rfl;replace hm22:=hm22.nq;obtain ⟨_,rfl,hm24⟩:=hm22.unfz 1 rfl;replace hm24:=hm24.nq;obtain ⟨_,rfl,hm26⟩:=hm24.unfz 2 rfl;replace hm26:=hm26.nq;obtain ⟨_,rfl,hm28⟩:=hm26.unfz 3 rfl;replace hm28:=hm28.nq;obtain ⟨_,rfl,hm30⟩:=hm28.unfz 4 rfl;replace hm30:=hm30.nq;obtain ⟨_,rfl,hm32⟩:=hm30.unfz 5 rfl;replace hm32:=hm32.nq;refine Rn.drawK 22 rfl hm32 (by kernel_rfl) ?_;intro w21 hm21;refine dq [0] ?_;refine RH.tk 1 rfl (fun w' hDr=>V.ldB isAgg76 rfl ((hm21.ext hDr).get 7 rfl) rfl) ?_;refine dq [3] ?_;refine RH.tk 4 rfl (fun w' hDr=>V.ldB isAgg76 rfl ((hm21.ext hDr).get 7 rfl) rfl) ?_;refine dq [6] ?_;refine RH.tk 7 rfl (fun w' hDr=>V.ldB isAgg76 rfl ((hm21.ext hDr).get 7 rfl) rfl) ?_;refine dq [9] ?_;refine RH.tk 10 rfl (fun w' hDr=>V.ldB isAgg76 rfl ((hm21.ext hDr).get 7 rfl) rfl) ?_;refine dq [12] ?_;refine RH.tk 13 rfl (fun w' hDr=>V.ldB isAgg77 rfl ((hm21.ext hDr).get 7 rfl) rfl) ?_;refine dq [15] ?_;refine RH.tk 16 rfl (fun w' hDr=>V.ldB isAgg77 rfl ((hm21.ext hDr).get 7 rfl) rfl) ?_;refine dq [18] ?_;refine RH.tk 19 rfl (fun w' hDr=>V.ldB isAgg78 rfl ((hm21.ext hDr).get 7 rfl) rfl) ?_;obtain ⟨p34,e34,hM⟩:=zAb hM;refine RH.cq (cK func118) 2 (zF4 (Z0:=All) e34 (zF8 (zU6 (hm21.get 9 rfl))) :) ?_;rintro _ w34 ⟨b34_0,rfl,hq34⟩;refine ⟨_,rfl,((Ext.refl _).trans hq34.fr),?_⟩;have hm36:=hm21.callF (flC (zDl _ _ _) fl0) hq34;obtain ⟨p37,e37,hM⟩:=zAb hM;refine RH.cq (cK func118) 5 (zF4 (Z0:=All) e37 (zF8 (zU6 (hm36.get 10 rfl))) :) ?_;rintro _ w37 ⟨b37_0,rfl,hq37⟩;refine ⟨_,rfl,(((Ext.refl _).trans hq34.fr).trans hq37.fr),?_⟩;have hm39:=hm36.callF (flC (zDl _ _ _) fl0) hq37;obtain ⟨p40,e40,hM⟩:=zAb hM;refine RH.cq (cK func118) 8 (zF4 (Z0:=All) e40 (zF8 (zU6 (hm39.get 11 rfl))) :) ?_;rintro _ w40 ⟨b40_0,rfl,hq40⟩;refine ⟨_,rfl,((((Ext.refl _).trans hq34.fr).trans hq37.fr).trans hq40.fr),?_⟩;have hm42:=hm39.callF (flC (zDl _ _ _) fl0) hq40;obtain ⟨p43,e43,hM⟩:=zAb hM;refine RH.cq (cK func118) 11 (zF4 (Z0:=All) e43 (zF8 (zU6 (hm42.get 12 rfl))) :) ?_;rintro _ w43 ⟨b43_0,rfl,hq43⟩;refine ⟨_,rfl,(((((Ext.refl _).trans hq34.fr).trans hq37.fr).trans hq40.fr).trans hq43.fr),?_⟩;have hm45:=hm42.callF (flC (zDl _ _ _) fl0) hq43;obtain ⟨p46,e46,hM⟩:=zAb hM;refine RH.cq (cK func119) 14 (zIz (Z0:=All) e46 (zF8 (zU6 (hm45.get 13 rfl))) :) ?_;rintro _ w46 ⟨b46_0,rfl,hq46⟩;refine ⟨_,rfl,((((((Ext.refl _).trans hq34.fr).trans hq37.fr).trans hq40.fr).trans hq43.fr).trans hq46.fr),?_⟩;have hm48:=hm45.callF (flC (zDl _ _ _) fl0) hq46;obtain ⟨p49,e49,hM⟩:=zAb hM;refine RH.cq (cK func119) 17 (zIz (Z0:=All) e49 (zF8 (zU6 (hm48.get 14 rfl))) :) ?_;rintro _ w49 ⟨b49_0,rfl,hq49⟩;refine ⟨_,rfl,(((((((Ext.refl _).trans hq34.fr).trans hq37.fr).trans hq40.fr).trans hq43.fr).trans hq46.fr).trans hq49.fr),?_⟩;have hm51:=hm48.callF (flC (zDl _ _ _) fl0) hq49;obtain ⟨p52,e52,hM⟩:=zAb hM;refine RH.cq (cK func120) 20 (zK4 (Z0:=All) e52 (zQm (hm51.get 6 rfl)) :) ?_;rintro _ w52 ⟨F52_0,b52_0,rfl,hq52⟩;refine ⟨_,rfl,((((((((Ext.refl _).trans hq34.fr).trans hq37.fr).trans hq40.fr).trans hq43.fr).trans hq46.fr).trans hq49.fr).trans hq52.fr),?_⟩;have hm54:=hm51.callF (flC ((zA4.oflat _ _ _)) fl0) hq52
 refine RH.here fun hS21=>RH.on 21 rfl (V.bldS (cs:=[_,_,_,_,_,_,_]) st80 rfl rfl) hS21 ?_
 refine RG.tailK (by kernel_rfl) ?_;refine RH.st 22 (by kernel_rfl) rfl rfl sizeOf80 rfl rfl rfl rfl (by first|exact zJg rfl|(simp [Value.oneCell'];done)) (hm54.get 8 rfl) (by first|exact nbl rfl|(simp;done)) ?_;intro w55 m55 x55;have hm56:=(hm54.st 8 rfl x55 m55).nf [_,_,_,_,_,_,_,_,zAh _ _ [_,_,_,_,_,_,_],_,_,_,_,_,_,_,_,_,_,_,_,_] rfl;refine ⟨trivial,?_⟩;refine RH.doneP (by kernel_rfl) ?_;have hm58:=hm56.cu [0,1,2,3,4,5,6,7,8,9,10,11,12,13,14,16,17,18,19,20,21] [15];obtain ⟨F57,hm57⟩:=hm58.fold (zA8.sh b34_0 p34) rfl;have hm60:=hm57.cu [0,1,2,3,4,5,6,7,8,9,10,11,12,13,14,16,17,18,19,20,21] [15];obtain ⟨F59,hm59⟩:=hm60.fold (zA8.sh b37_0 p37) rfl;have hm62:=hm59.cu [0,1,2,3,4,5,6,7,8,9,10,11,12,13,14,16,17,18,19,20,21] [15];obtain ⟨F61,hm61⟩:=hm62.fold (zA8.sh b40_0 p40) rfl;have hm64:=hm61.cu [0,1,2,3,4,5,6,7,8,9,10,11,12,13,14,16,17,18,19,20,21] [15];obtain ⟨F63,hm63⟩:=hm64.fold (zA8.sh b43_0 p43) rfl;have hm66:=hm63.cu [0,1,2,3,4,5,6,7,8,9,10,11,12,13,14,16,17,18,19,20,21] [15];obtain ⟨F65,hm65⟩:=hm66.fold (zAg.sh b46_0 p46) rfl;have hm68:=hm65.cu [0,1,2,3,4,5,6,7,8,9,10,11,12,13,14,16,17,18,19,20,21] [15];obtain ⟨F67,hm67⟩:=hm68.fold (zAg.sh b49_0 p49) rfl;refine Rn.retG1 func63 rfl (rvC rfl isAgg80 sizeOf80 (hm56.get 8 rfl) rfl) ?_;obtain rfl:=zDt hM;exact ⟨F57,b34_0,F59,b37_0,F61,b40_0,F63,b43_0,F65,b46_0,F67,b49_0,F52_0,b52_0,rfl,hm67.pk [16,17,18,19,20,21,15]⟩
theorem zPl {x0:Int} {r:UInt64} (hM:zLo x0=some r)  :
 Calls prog 215 #[iv x0] w fun x w'=>x=.returned (zAl r)∧Hp Z0 No w w' []:=by
 have hm0:=Hp.nil Z0 No w;have hc0:=Calm.nil;refine Rn.en func215 ?_;refine gg 7 rfl (Rn.q rfl (V.cv64 underlying3 underlying35 rfl) (Rn.q rfl (V.sh64 rfl rfl _ 1 rfl rfl (zWd _ _ _ 1 (by decide))) (gg 1 rfl (Rn.q rfl (V.shrZ (m:=63) rfl rfl) (Rn.q rfl (V.cv64 underlying3 underlying35 rfl) (Rn.q rfl (V.o64 rfl rfl ((zAe x0)<<<UInt64.ofNat 1) (zAe (shrZ x0 63)) rfl rfl (zSl _ _ _)) (gg 2 rfl ?_)))))))
 cases hM
 exact Rn.R1 func215 ⟨rfl,hm0.pk []⟩
theorem zIh  {r:zLt} (hM:zG6  = some r)  :
 Calls prog 180 #[] w fun x w'=>x=.returned (.agg [iv r.a0,iv r.a1,iv r.a2,iv r.a3].toArray)∧Hp Z0 No w w' []:=by
 have hm0:=Hp.nil Z0 No w;have hc0:=Calm.nil;refine Rn.en func180 ?_;refine gg 2 rfl (Rn.alloc rfl rfl rfl Tryz.zeroValue234 rfl ?_);intro b1 w1 hb1 m1 e1;have hm3:=(hm0.addBox hb1 e1 m1).nf [zAh _ _ [_,_,_,_]] rfl;refine gg 3 rfl (Rn.q rfl (V.bldA (cs:=[_,_,_,_]) _ zYk (zN7 4 1) rfl rfl) (Rn.sq rfl sizeOf234 rfl rfl (hm3.get 0 rfl) ?_));intro w4 m4 x4;have hm5:=(hm3.st 0 rfl x4 m4).nf [zAh _ _ [_,_,_,_]] rfl;refine gg 1 rfl ?_;refine Rn.retG1 func180 rfl (rvC rfl isAgg234 sizeOf234 (hm5.get 0 rfl) rfl) ?_;obtain rfl:=zDt hM;exact ⟨rfl,hm5.pk []⟩
theorem zKq {x0:UInt64} {r:Int} (hM:zH1 x0=some r)  :
 Calls prog 179 #[zAl x0] w fun x w'=>x=.returned (iv r)∧Hp Z0 No w w' []:=by
 have hm0:=Hp.nil Z0 No w;have hc0:=Calm.nil;refine Rn.en func179 ?_;refine gg 7 rfl ?_;obtain ⟨p1,e1,hM⟩:=zAb hM
 refine Rn.c0 (cK func180) (zIh (Z0:=All) e1  :) hm0 fun w1 _ hm2=>?_
 refine gg 2 rfl ?_;refine Rn.jG hm0 hM (G:=Unit) (fun g=>[]) (fun g=>[]) (fun j g=>j ()) ?_ ?_
 ·rintro _ w3 hm3 hM
  try dsimp only at hM
  refine gg 4 rfl ?_
  cases hM
  exact Rn.R1 func179 ⟨rfl,hm3.pk []⟩
 intro j1 hM hk1;refine gg 1 rfl ?_;refine Rn.loopF (G:=Int) (fun g=>[(0,zAl x0),(5,.agg [iv p1.a0,iv p1.a1,iv p1.a2,iv p1.a3].toArray),(6,iv g)]) (fun g w'=>Hp Z0 No w w' []) (fun n g=>zDu x0 p1 j1 n g) fuel 0 sA (hm2.pk []) hM (fun _=>rfl) ?_;clear hM;rintro m5 y4 w5 hm5 hM hn5;replace hM:zDu x0 p1 j1 (m5+1) y4=some r:=hM;rw [zDu] at hM;refine gg 5 rfl ?_;refine aD hM (fun h6 hM=>?_) (fun h6 hM=>?_)
 ·refine gg 6 rfl ?_;obtain ⟨z7,e7,hM⟩:=zAb hM;refine Rn.q rfl (V.arE1 zYk isAgg3 rfl rfl (zNs e7 rfl) (zNh (fun x:Int=>(.int .i64 x:Value)) e7)) (gg 7 rfl (Rn.q rfl (V.cv64 underlying3 underlying137 rfl) (Rn.q rfl (V.shr64 (a:=x0) (m:=(zAe z7).toNat) rfl rfl) (Rn.q rfl (V.eql rfl rfl) (gg 1 rfl ?_)))));refine aD hM (fun h8 hM=>?_) (fun h8 hM=>?_)
  ·refine gg 5 rfl ?_
   cases hM
   exact Rn.R1 func179 ⟨rfl,hm5.pk []⟩
  refine gg 6 rfl ?_;exact hn5 (W64 (y4+1)) _ _ sA (hm5.pk []) hM
 refine gg 1 rfl ?_;exact hk1 () _ _ (sb trivial) (hm5.pk []) hM
theorem zHf {x0:zA2} {r:Int} (hM:zCr x0=some r) (f0:(fzR (zA2.obj F0 b0 x0)).H Z0 w) :
 Calls prog 217 #[pt b0 0] w fun x w'=>x=.returned (iv r)∧Hp Z0 No w w' []:=by
 have hm0:=Hp.nil Z0 No w;have hc0:=Calm.nil;obtain ⟨hm2,hc0⟩:=hm0.kn hc0 f0;refine Rn.en func217 ?_;refine gg 5 rfl ?_;obtain ⟨_,⟨A4_0,c4_0,rfl⟩,hm4⟩:=hm2.unfz 0 rfl;replace hm4:=hm4.nq;have hm8:=hm4.fzSl 2 rfl;refine Rn.drawP rfl hm8 ?_;intro w3 hm3;refine dq [0,1,2] ?_;refine RH.takeP 3 (by kernel_rfl) rfl rfl rfl rfl (V.ldB isAgg22 rfl (hm3.getz 1 rfl) rfl) ?_;refine RH.takeP 4 (by kernel_rfl) rfl rfl rfl rfl (V.lenV underlying22 rfl) ?_;refine dq [5,6,7,8] ?_;refine RH.takeP 9 (by kernel_rfl) rfl rfl rfl rfl (V.ldB isAgg3 rfl (hm3.getz 1 rfl) rfl) ?_;refine dq [10,11] ?_;refine RH.doneP (by kernel_rfl) ?_
 cases hM
 exact Rn.R1 func217 ⟨rfl,hm3.pk []⟩
theorem m_bitio_Writer_Put_sim {x0:zA2} {x1:UInt64} {x2:Int} {r:(Bool×zA2)} (hM:zAf x0 x1 x2=some r) (hL:zIg Z0 w [zA2.obj F0 b0 x0]) :
 Calls prog 176 #[pt b0 0,zAl x1,iv x2] w fun x w'=>∃ F_p0,x=.returned (.bool (r.1))∧Hp Z0 (LS [zA2.obj F0 b0 x0]) w w' [zA2.obj F_p0 b0 r.2]:=by
 have hm0:=hL.start;refine Rn.en func176 ?_;refine gg 10 rfl ?_;refine Rn.cutR [6,7,8,9,10,11,12,13,14,15,16] [(0,pt b0 0),(1,zAl x1),(2,iv x2),(15,.bool (decide ((x2<0)∨(x2>64))))] (fun hk2=>?_) ?_
 ·refine Rn.partD (t:=12) rfl (fun h3=>?_) (fun h3=>?_)
  ·refine gg 3 rfl ?_;exact hk2 _ sA
  refine gg 3 rfl ?_;exact hk2 _ sA
 refine gg 1 rfl ?_;refine Rn.jR hm0 hM (G:=Bool×(Nat→Prop)) [] (fun g=>[(0,pt b0 0),(1,zAl x1),(2,iv x2),(26,.bool ((g.1)))]) (fun g=>[zA2.obj (g.2) b0 x0]) (fun j g=>j g.1) ?_ ?_
 ·rintro ⟨y5,F4⟩ w6 hm6 hM
  try dsimp only at hM
  refine gg 1 rfl ?_;refine aS hM (fun h7 hM=>?_) (fun h7 hM=>?_)
  ·refine gg 4 rfl ?_
   cases hM
   exact Rn.R1 func176 ⟨F4,rfl,hm6.pk [0]⟩
  refine gg 2 rfl ?_;refine Rn.jG hm0 hM (G:=zA2×(Nat→Prop)) (fun g=>[]) (fun g=>[zA2.obj (g.2) b0 (g.1)]) (fun j g=>j g.1) ?_ ?_
  ·rintro ⟨y8,F8⟩ w9 hm9 hM
   try dsimp only at hM
   refine gg 4 rfl ?_
   cases hM
   exact Rn.R1 func176 ⟨F8,rfl,hm9.pk [0]⟩
  intro j2 hM hk2;refine gg 1 rfl ?_;refine Rn.loopF (G:=Int×zA2×(Nat→Prop)) (fun g=>[(0,pt b0 0),(1,zAl x1),(2,iv (g.1))]) (fun g w'=>Hp Z0 (LS [zA2.obj F0 b0 x0]) w w' [zA2.obj (g.2.2) b0 (g.2.1)]) (fun n g=>zC9 x1 j2 n g.1 g.2.1) fuel (x2,x0,F4) sA (hm6.pk [0]) hM (fun _=>rfl) ?_;clear hM;rintro m12 ⟨y10,y11,F11⟩ w12 hm12 hM hn12;replace hM:zC9 x1 j2 (m12+1) y10 y11=some r:=hM;rw [zC9] at hM;refine gg 6 rfl ?_;refine aD hM (fun h13 hM=>?_) (fun h13 hM=>?_)
  ·refine gg 6 rfl ?_;obtain ⟨p14,e14,hM⟩:=zAb hM
   refine Rn.c0 (cK func217) (zHf (Z0:=All) e14 (zCe (hm12.get 0 rfl)) :) hm12 fun w14 _ hm15=>?_
   refine gg 2 rfl ?_;refine Rn.jG hm0 hM (G:=zA2×(Nat→Prop)) (fun g=>[(0,pt b0 0),(1,zAl x1),(2,iv y10)]) (fun g=>[zA2.obj (g.2) b0 (g.1)]) (fun j g=>j g.1) ?_ ?_
   ·rintro ⟨y16,F16⟩ w17 hm17 hM
    try dsimp only at hM
    refine gg 3 rfl ?_;obtain ⟨p18,e18,hM⟩:=zAb hM
    refine Rn.c0 (cK func217) (zHf (Z0:=All) e18 (zCe (hm17.get 0 rfl)) :) hm17 fun w18 _ hm19=>?_
    refine gg 6 rfl (Rn.q rfl (V.mini rfl rfl) (gg 8 rfl (Rn.q rfl (V.cv64 underlying3 underlying137 rfl) (Rn.q rfl (V.shr64 (a:=x1) (m:=(zAe (W64 (y10-(min y10 p18)))).toNat) rfl rfl) (gg 8 rfl ?_)))));refine Rn.jG hm0 hM (G:=UInt64×(Nat→Prop)) (fun g=>[(0,pt b0 0),(1,zAl x1),(2,iv y10),(7,iv p18),(8,iv (min y10 p18)),(9,zAl (g.1))]) (fun g=>[zA2.obj (g.2) b0 y16]) (fun j g=>j g.1) ?_ ?_
    ·rintro ⟨y21,F20⟩ w22 hm22 hM
     try dsimp only at hM
     refine gg 1 rfl ?_;refine Rn.drawT 21 rfl hm22 (by kernel_rfl) ?_;intro w23 hm23;refine RT.vv 0 rfl (V.mv rfl) ?_;refine RT.vv 1 rfl (V.nil rfl) ?_;refine RT.vv 2 rfl (V.fa underlying172 rfl sizeOf22 rfl rfl) ?_;obtain ⟨_,⟨A24_0,c24_0,rfl⟩,hm24⟩:=hm23.unf 0 rfl;replace hm24:=hm24.nq;refine RT.vv 3 rfl (V.ldB isAgg22 rfl (hm24.get 0 rfl) rfl) ?_;refine RT.vv 4 rfl (V.mv rfl) ?_;refine RT.vv 5 rfl (V.nil rfl) ?_;refine RT.vv 6 rfl (V.fa underlying172 rfl sizeOf22 rfl rfl) ?_;refine RT.vv 7 rfl (V.ldB isAgg22 rfl (hm24.get 0 rfl) rfl) ?_;refine RT.vv 8 rfl (V.lenV underlying22 rfl) ?_;refine RT.vv 9 rfl (V.subW rfl rfl) ?_;obtain ⟨z26,e26,hM⟩:=zAb hM;obtain ⟨kk26,ke26,kz26,kl26⟩:=zGz e26;obtain ⟨g26,vs26,hA26,hR26,hrel26⟩:=hm24.ownAt 1 rfl kz26;subst hA26;obtain ⟨rfl,_⟩:=hrel26;refine RT.vv 10 rfl (V.ixE kk26 underlying22 sizeOf5 rfl rfl ke26 kl26) ?_;refine RT.vv 11 rfl (V.ldR0 isAgg5 rfl hR26 rfl) ?_;refine RT.vv 12 rfl (V.mv rfl) ?_;refine RT.vv 13 rfl (V.mv rfl) ?_;refine RT.vv 14 rfl (V.mv rfl) ?_;refine RT.vv 15 rfl (V.subW rfl rfl) ?_;refine RT.vv 16 rfl (V.cv64 underlying3 underlying137 rfl) ?_;refine RT.vv 17 rfl (V.shl64 (a:=y21) (m:=(zAe (W64 (p18-(min y10 p18)))).toNat) rfl rfl) ?_;refine RT.vv 18 rfl (V.cv8 underlying35 underlying5 rfl) ?_;refine RT.vv 19 rfl (V.or8 (a:=z26) (b:=zKv ((shl64 y21 ((zAe (W64 (p18-(min y10 p18)))).toNat)).toNat:Int)) rfl rfl) ?_;obtain ⟨z27,e27,hM⟩:=zAb hM;obtain ⟨kk27,ke27,kz27,kl27⟩:=zGz e27;obtain ⟨vs27,hR27,hrel27⟩:=hm24.ownAtL 1 rfl kz27;obtain ⟨rfl,_⟩:=hrel27;refine RT.vv 20 rfl (V.ixE kk27 underlying22 sizeOf5 rfl rfl ke27 kl27) ?_;refine RT.tail ?_;refine RH.stI 21 (by kernel_rfl) hm24 1 rfl ke27 kl27 rfl rfl sizeOf5 rfl rfl rfl (vs:=[u8v (z26|||(zKv ((shl64 y21 ((zAe (W64 (p18-(min y10 p18)))).toNat)).toNat:Int)))]) rfl (⟨rfl,trivial⟩) ?_;intro w28 hm28;refine ⟨trivial,?_⟩;refine RH.doneP (by kernel_rfl) ?_;refine gg 5 rfl (Rn.q rfl (V.ldB isAgg3 rfl (hm28.get 0 rfl) rfl) (gg 4 rfl (Rn.sq rfl sizeOf3 rfl rfl (hm28.get 0 rfl) ?_)));intro w29 m29 x29;have hm30:=(hm28.st 0 rfl x29 m29).nf [zAh _ _ [_,_],_] rfl;refine gg 8 rfl ?_;have hm31:=(hm30.reBox 0 rfl (congrArg (fun (n0:Nat)=>([.slice (some ⟨g26,0,none⟩) n0 c24_0,iv (W64 (y16.n+(min y10 p18)))]:List Value)) (show (y16.b).length=((zGq y16.b (W64 ((y16.b.length:Int)-1)) (z26|||(zKv ((shl64 y21 ((zAe (W64 (p18-(min y10 p18)))).toNat)).toNat:Int))))).length from ((zBc _ _ _)).symm.trans (rfl)))).nf [zAh _ _ [_,_],_] rfl;have hm33:=hm31.cu [] [0,1];obtain ⟨F32,hm32⟩:=hm33.fold (zA2.sh b0 ({ b:=(zGq y16.b (W64 ((y16.b.length:Int)-1)) (z26|||(zKv ((shl64 y21 ((zAe (W64 (p18-(min y10 p18)))).toNat)).toNat:Int)))),n:=W64 (y16.n+(min y10 p18)) }:zA2)) ⟨(some ⟨g26,0,none⟩),c24_0,rfl⟩;exact hn12 ((W64 (y10-(min y10 p18))),({ b:=(zGq y16.b (W64 ((y16.b.length:Int)-1)) (z26|||(zKv ((shl64 y21 ((zAe (W64 (p18-(min y10 p18)))).toNat)).toNat:Int)))),n:=W64 (y16.n+(min y10 p18)) }:zA2),F32) _ _ sA (hm32.pk [0]) hM
    intro j4 hM hk4;refine aD hM (fun h34 hM=>?_) (fun h34 hM=>?_)
    ·refine gg 3 rfl (Rn.q rfl (V.cv64 underlying3 underlying137 rfl) (Rn.q rfl (V.shl64 (a:=(1:UInt64)) (m:=(zAe (min y10 p18)).toNat) rfl rfl) (Rn.q rfl (V.ari64 (a:=shl64 (1:UInt64) ((zAe (min y10 p18)).toNat)) (b:=(1:UInt64)) rfl rfl _ rfl (zI5 _ _)) (Rn.q rfl (V.o64 rfl rfl (shr64 x1 ((zAe (W64 (y10-(min y10 p18)))).toNat)) ((shl64 (1:UInt64) ((zAe (min y10 p18)).toNat))-(1:UInt64)) rfl rfl (zPd _ _ _)) (gg 2 rfl ?_)))));exact hk4 (((shr64 x1 ((zAe (W64 (y10-(min y10 p18)))).toNat))&&&((shl64 (1:UInt64) ((zAe (min y10 p18)).toNat))-(1:UInt64))),F16) _ _ sA (hm19.pk [0]) hM
    refine gg 1 rfl ?_;exact hk4 ((shr64 x1 ((zAe (W64 (y10-(min y10 p18)))).toNat)),F16) _ _ sA (hm19.pk [0]) hM
   intro j3 hM hk3;refine aD hM (fun h35 hM=>?_) (fun h35 hM=>?_)
   ·refine gg 5 rfl ?_;obtain ⟨_,⟨A36_0,c36_0,rfl⟩,hm36⟩:=hm15.unf 0 rfl;replace hm36:=hm36.nq;refine Rn.q rfl (V.ldB isAgg22 rfl (hm36.get 0 rfl) rfl) ?_;obtain ⟨z38,e38,hM⟩:=zAb hM;refine Rn.pushH (z:=(0:UInt8)) (vs:=[u8v (0:UInt8)]) hm36 1 rfl e38 rfl rfl rfl rfl underlying22 el5 rfl rfl rfl rfl (fun _=>rfl) (⟨rfl,trivial⟩) ?_;intro A38 c38 w38 u38 hm38;refine gg 2 rfl (Rn.sq rfl sizeOf22 rfl rfl (hm38.get 0 rfl) ?_);intro w40 m40 x40;have hm41:=(hm38.st 0 rfl x40 m40).nf [zAh _ _ [_,_],_] rfl;refine gg 1 rfl ?_;have hm43:=hm41.cu [] [0,1];obtain ⟨F42,hm42⟩:=hm43.fold (zA2.sh b0 ({ b:=z38,n:=y11.n }:zA2)) ⟨A38,c38,rfl⟩;exact hk3 (({ b:=z38,n:=y11.n }:zA2),F42) _ _ sA (hm42.pk [0]) hM
   refine gg 1 rfl ?_;exact hk3 (y11,F11) _ _ sA (hm15.pk [0]) hM
  refine gg 1 rfl ?_;exact hk2 (y11,F11) _ _ (sb trivial) (hm12.pk [0]) hM
 intro j1 hM hk1;refine zIu hM (Rn.partD (t:=16) rfl) (fun h44 hM=>?_) (fun h44 hM=>?_)
 ·refine gg 10 rfl ?_;exact hk1 (true,F0) _ _ sA (hm0.pk [0]) hM
 refine gg 3 rfl ?_;refine Rn.jR hm0 hM (G:=Bool×(Nat→Prop)) [16] (fun g=>[(0,pt b0 0),(1,zAl x1),(2,iv x2),(16,.bool false),(25,.bool ((g.1)))]) (fun g=>[zA2.obj (g.2) b0 x0]) (fun j g=>j g.1) ?_ ?_
 ·rintro ⟨y46,F45⟩ w47 hm47 hM
  try dsimp only at hM
  refine gg 1 rfl ?_;exact hk1 (y46,F45) _ _ sA (hm47.pk [0]) hM
 intro j5 hM hk5;refine zIu hM (Rn.partD (t:=19) rfl) (fun h48 hM=>?_) (fun h48 hM=>?_)
 ·refine gg 2 rfl (Rn.q rfl (V.cv64 underlying3 underlying137 rfl) (Rn.q rfl (V.shr64 (a:=x1) (m:=(zAe x2).toNat) rfl rfl) (Rn.q rfl (V.neq rfl rfl) (gg 1 rfl ?_))));exact hk5 ((decide (((shr64 x1 ((zAe x2).toNat)).toNat:Int)≠0)),F0) _ _ sA (hm0.pk [0]) hM
 refine gg 6 rfl ?_;exact hk5 (false,F0) _ _ sA (hm0.pk [0]) hM
theorem m_vary_Put_sim {x0:zA2} {x1:UInt64} {r:zA2} (hM:zGa x0 x1=some r) (hL:zIg Z0 w [zA2.obj F0 b0 x0]) :
 Calls prog 122 #[pt b0 0,zAl x1] w fun x w'=>∃ F_p0,x=.returned (.tuple #[])∧Hp Z0 (LS [zA2.obj F0 b0 x0]) w w' [zA2.obj F_p0 b0 r]:=by
 have hm0:=hL.start;refine Rn.en func122 ?_;refine gg 3 rfl ?_;obtain ⟨p2,e2,hM⟩:=zAb hM
 refine Rn.c0 (cK func179) (zKq (Z0:=All) e2  :) hm0 fun w2 _ hm3=>?_
 refine gg 6 rfl (Rn.q rfl (V.cv64 underlying3 underlying35 rfl) ?_);obtain ⟨p4,e4,hM⟩:=zAb hM;have hm5:=hm3.cu [] [0]
 refine Rn.a1 (cK func176) (m_bitio_Writer_Put_sim e4 hm5.lend :) hm5 fun F4_p0 w4 hm7=>?_
 refine gg 4 rfl ?_;obtain ⟨p8,e8,hM⟩:=zAb hM
 refine Rn.c0 (cK func180) (zIh (Z0:=All) e8  :) hm7 fun w8 _ hm9=>?_
 refine gg 1 rfl ?_;obtain ⟨z10,e10,hM⟩:=zAb hM;refine Rn.q rfl (V.arE1 zYk isAgg3 rfl rfl (zNs e10 rfl) (zNh (fun x:Int=>(.int .i64 x:Value)) e10)) ?_;obtain ⟨p11,e11,hM⟩:=zAb hM;have hm12:=hm9.cu [] [0]
 refine Rn.a1 (cK func176) (m_bitio_Writer_Put_sim e11 hm12.lend :) hm12 fun F11_p0 w11 hm14=>?_
 refine gg 1 rfl ?_;refine Rn.end0 func122 rfl ?_;obtain rfl:=zDt hM;exact ⟨F11_p0,rfl,hm14.pk [0]⟩
theorem m_vary_PutInt_sim {x0:zA2} {x1:Int} {r:zA2} (hM:zDq x0 x1=some r) (hL:zIg Z0 w [zA2.obj F0 b0 x0]) :
 Calls prog 174 #[pt b0 0,iv x1] w fun x w'=>∃ F_p0,x=.returned (.tuple #[])∧Hp Z0 (LS [zA2.obj F0 b0 x0]) w w' [zA2.obj F_p0 b0 r]:=by
 have hm0:=hL.start;refine Rn.en func174 ?_;refine gg 3 rfl ?_;obtain ⟨p2,e2,hM⟩:=zAb hM
 refine Rn.c0 (cK func215) (zPl (Z0:=All) e2  :) hm0 fun w2 _ hm3=>?_
 obtain ⟨p4,e4,hM⟩:=zAb hM;have hm5:=hm3.cu [] [0]
 refine Rn.a1 (cK func122) (m_vary_Put_sim e4 hm5.lend :) hm5 fun F4_p0 w4 hm7=>?_
 refine gg 1 rfl ?_;refine Rn.end0 func174 rfl ?_;obtain rfl:=zDt hM;exact ⟨F4_p0,rfl,hm7.pk [0]⟩
theorem zHo  {r:zLs} (hM:zEw  = some r)  :
 Calls prog 177 #[] w fun x w'=>x=.returned (.agg [iv r.a0,iv r.a1,iv r.a2,iv r.a3,iv r.a4].toArray)∧Hp Z0 No w w' []:=by
 have hm0:=Hp.nil Z0 No w;have hc0:=Calm.nil;refine Rn.en func177 ?_;refine gg 2 rfl (Rn.alloc rfl rfl rfl Tryz.zeroValue232 rfl ?_);intro b1 w1 hb1 m1 e1;have hm3:=(hm0.addBox hb1 e1 m1).nf [zAh _ _ [_,_,_,_,_]] rfl;refine gg 3 rfl (Rn.q rfl (V.bldA (cs:=[_,_,_,_,_]) _ zYl (zN7 5 1) rfl rfl) (Rn.sq rfl sizeOf232 rfl rfl (hm3.get 0 rfl) ?_));intro w4 m4 x4;have hm5:=(hm3.st 0 rfl x4 m4).nf [zAh _ _ [_,_,_,_,_]] rfl;refine gg 1 rfl ?_;refine Rn.retG1 func177 rfl (rvC rfl isAgg232 sizeOf232 (hm5.get 0 rfl) rfl) ?_;obtain rfl:=zDt hM;exact ⟨rfl,hm5.pk []⟩
theorem zOy {x0:Int} {x1:Int} {r:Bool} (hM:zJ x0 x1=some r)  :
 Calls prog 216 #[iv x0,iv x1] w fun x w'=>x=.returned (.bool (r))∧Hp Z0 No w w' []:=by
 have hm0:=Hp.nil Z0 No w;have hc0:=Calm.nil;refine Rn.en func216 ?_;refine gg 15 rfl ?_;refine aD hM (fun h1 hM=>?_) (fun h1 hM=>?_)
 ·refine gg 6 rfl ?_
  cases hM
  exact Rn.R1 func216 ⟨rfl,hm0.pk []⟩
 refine gg 5 rfl ?_;refine aD hM (fun h2 hM=>?_) (fun h2 hM=>?_)
 ·refine gg 4 rfl ?_
  cases hM
  exact Rn.R1 func216 ⟨rfl,hm0.pk []⟩
 refine gg 7 rfl (Rn.q rfl (V.cv64 underlying3 underlying137 rfl) (Rn.q rfl (V.shlZ (m:=(zAe (W64 (x1-1))).toNat) rfl rfl) (gg 2 rfl ?_)));refine Rn.jR hm0 hM (G:=Bool) [14] (fun g=>[(25,.bool (g))]) (fun g=>[]) (fun j g=>j g) ?_ ?_
 ·rintro y3 w4 hm4 hM
  try dsimp only at hM
  refine gg 2 rfl ?_
  cases hM
  exact Rn.R1 func216 ⟨rfl,hm4.pk []⟩
 intro j1 hM hk1;refine zIu hM (Rn.partD (t:=18) rfl) (fun h5 hM=>?_) (fun h5 hM=>?_)
 ·refine gg 3 rfl (Rn.q rfl (V.cv64 underlying3 underlying137 rfl) (Rn.q rfl (V.shlZ (m:=(zAe (W64 (x1-1))).toNat) rfl rfl) (gg 2 rfl ?_)));exact hk1 (decide (x0<shlZ 1 ((zAe (W64 (x1-1))).toNat))) _ _ sA (hm0.pk []) hM
 refine gg 7 rfl ?_;exact hk1 false _ _ sA (hm0.pk []) hM
theorem zM0 {x0:Int} {r:Int} (hM:zK x0=some r)  :
 Calls prog 175 #[iv x0] w fun x w'=>x=.returned (iv r)∧Hp Z0 No w w' []:=by
 have hm0:=Hp.nil Z0 No w;have hc0:=Calm.nil;refine Rn.en func175 ?_;refine gg 7 rfl ?_;obtain ⟨p1,e1,hM⟩:=zAb hM
 refine Rn.c0 (cK func177) (zHo (Z0:=All) e1  :) hm0 fun w1 _ hm2=>?_
 refine gg 2 rfl ?_;refine Rn.jG hm0 hM (G:=Unit) (fun g=>[]) (fun g=>[]) (fun j g=>j ()) ?_ ?_
 ·rintro _ w3 hm3 hM
  try dsimp only at hM
  refine gg 4 rfl ?_
  cases hM
  exact Rn.R1 func175 ⟨rfl,hm3.pk []⟩
 intro j1 hM hk1;refine gg 1 rfl ?_;refine Rn.loopF (G:=Int) (fun g=>[(0,iv x0),(5,.agg [iv p1.a0,iv p1.a1,iv p1.a2,iv p1.a3,iv p1.a4].toArray),(6,iv g)]) (fun g w'=>Hp Z0 No w w' []) (fun n g=>zEx x0 p1 j1 n g) fuel 0 sA (hm2.pk []) hM (fun _=>rfl) ?_;clear hM;rintro m5 y4 w5 hm5 hM hn5;replace hM:zEx x0 p1 j1 (m5+1) y4=some r:=hM;rw [zEx] at hM;refine gg 5 rfl ?_;refine aD hM (fun h6 hM=>?_) (fun h6 hM=>?_)
 ·refine gg 6 rfl ?_;obtain ⟨z7,e7,hM⟩:=zAb hM;refine Rn.q rfl (V.arE1 zYl isAgg3 rfl rfl (zNs e7 rfl) (zNh (fun x:Int=>(.int .i64 x:Value)) e7)) (gg 7 rfl ?_);obtain ⟨p8,e8,hM⟩:=zAb hM
  refine Rn.c0 (cK func216) (zOy (Z0:=All) e8  :) hm5 fun w8 _ hm9=>?_
  refine gg 1 rfl ?_;refine aS hM (fun h10 hM=>?_) (fun h10 hM=>?_)
  ·refine gg 5 rfl ?_
   cases hM
   exact Rn.R1 func175 ⟨rfl,hm9.pk []⟩
  refine gg 6 rfl ?_;exact hn5 (W64 (y4+1)) _ _ sA (hm9.pk []) hM
 refine gg 1 rfl ?_;exact hk1 () _ _ (sb trivial) (hm5.pk []) hM
theorem m_vary_Row_follow_sim {x0:zA8} {x1:UInt64} {r:zA8} (hM:zDm x0 x1=some r) (hL:zIg Z0 w [zAh b0 186 [iv x0.n,zAl x0.last,zAl x0.step]]) :
 Calls prog 178 #[pt b0 0,zAl x1] w fun x w'=>x=.returned (.tuple #[])∧Hp Z0 (LS [zAh b0 186 [iv x0.n,zAl x0.last,zAl x0.step]]) w w' [zAh b0 186 [iv r.n,zAl r.last,zAl r.step]]:=by
 have hm0:=hL.start;refine Rn.en func178 ?_;refine gg 6 rfl (Rn.q rfl (V.ldB isAgg3 rfl (hm0.get 0 rfl) rfl) (gg 2 rfl ?_));refine Rn.jG hm0 hM (G:=zA8) (fun g=>[(0,pt b0 0),(1,zAl x1)]) (fun g=>[zAh b0 186 [iv g.n,zAl g.last,zAl g.step]]) (fun j g=>j g) ?_ ?_
 ·rintro y2 w3 hm3 hM
  try dsimp only at hM
  refine gg 6 rfl (Rn.sq rfl sizeOf35 rfl rfl (hm3.get 0 rfl) ?_);intro w4 m4 x4;have hm5:=(hm3.st 0 rfl x4 m4).nf [zAh _ _ [_,_,_]] rfl;refine gg 5 rfl (Rn.q rfl (V.ldB isAgg3 rfl (hm5.get 0 rfl) rfl) (gg 3 rfl (Rn.sq rfl sizeOf3 rfl rfl (hm5.get 0 rfl) ?_)));intro w6 m6 x6;have hm7:=(hm5.st 0 rfl x6 m6).nf [zAh _ _ [_,_,_]] rfl;refine gg 1 rfl ?_;refine Rn.end0 func178 rfl ?_;obtain rfl:=zDt hM;exact ⟨rfl,hm7.pk [0]⟩
 intro j1 hM hk1;refine aD hM (fun h8 hM=>?_) (fun h8 hM=>?_)
 ·refine gg 6 rfl (Rn.q rfl (V.ldB isAgg35 rfl (hm0.get 0 rfl) rfl) (Rn.q rfl (V.ari64 (a:=x1) (b:=x0.last) rfl rfl _ rfl (zI5 _ _)) (gg 2 rfl (Rn.sq rfl sizeOf35 rfl rfl (hm0.get 0 rfl) ?_))));intro w9 m9 x9;have hm10:=(hm0.st 0 rfl x9 m9).nf [zAh _ _ [_,_,_]] rfl;refine gg 1 rfl ?_;exact hk1 ({ n:=x0.n,last:=x0.last,step:=x1-x0.last }:zA8) _ _ sA (hm10.pk [0]) hM
 refine gg 1 rfl ?_;exact hk1 x0 _ _ sA (hm0.pk [0]) hM
theorem m_vary_Row_Put_sim {x0:zA8} {x1:zA2} {x2:Int} {r:(zA2×zA8)} (hM:zEf x0 x1 x2=some r) (hL:zIg Z0 w [zAh b0 186 [iv x0.n,zAl x0.last,zAl x0.step],zA2.obj F1 b1 x1]) :
 Calls prog 121 #[pt b0 0,pt b1 0,iv x2] w fun x w'=>∃ F_p1,x=.returned (.tuple #[])∧Hp Z0 (LS [zAh b0 186 [iv x0.n,zAl x0.last,zAl x0.step],zA2.obj F1 b1 x1]) w w' [zA2.obj F_p1 b1 r.1,zAh b0 186 [iv r.2.n,zAl r.2.last,zAl r.2.step]]:=by
 have hm0:=hL.start;refine Rn.en func121 ?_;refine gg 6 rfl (Rn.q rfl (V.ldB isAgg3 rfl (hm0.get 0 rfl) rfl) (gg 1 rfl ?_));refine Rn.jG hm0 hM (G:=zA2×(Nat→Prop)) (fun g=>[(0,pt b0 0),(2,iv x2)]) (fun g=>[zAh b0 186 [iv x0.n,zAl x0.last,zAl x0.step],zA2.obj (g.2) b1 (g.1)]) (fun j g=>j g.1) ?_ ?_
 ·rintro ⟨y3,F3⟩ w4 hm4 hM
  try dsimp only at hM
  refine gg 3 rfl (Rn.q rfl (V.cv64 underlying3 underlying35 rfl) ?_);obtain ⟨p5,e5,hM⟩:=zAb hM;have hm6:=hm4.cu [1] [0];refine Rn.cq (cK func178) (m_vary_Row_follow_sim e5 hm6.lend :) ?_;rintro _ w5 ⟨rfl,hq5⟩;refine ⟨_,rfl,?_⟩;have hm8:=hm6.callAZ hq5;refine gg 1 rfl ?_;refine Rn.end0 func121 rfl ?_;obtain rfl:=zDt hM;exact ⟨F3,rfl,hm8.pk [0,1]⟩
 intro j1 hM hk1;refine gg 6 rfl ?_;refine aD hM (fun h9 hM=>?_) (fun h9 hM=>?_)
 ·refine gg 3 rfl ?_;obtain ⟨p10,e10,hM⟩:=zAb hM;have hm11:=hm0.cu [0] [1]
  refine Rn.a1 (cK func174) (m_vary_PutInt_sim e10 hm11.lend :) hm11 fun F10_p0 w10 hm13=>?_
  refine gg 2 rfl ?_;exact hk1 (p10,F10_p0) _ _ sA (hm13.pk [0,1]) hM
 refine gg 5 rfl ?_;refine aD hM (fun h14 hM=>?_) (fun h14 hM=>?_)
 ·refine gg 3 rfl (Rn.q rfl (V.cv64 underlying3 underlying35 rfl) (gg 3 rfl (Rn.q rfl (V.ldB isAgg35 rfl (hm0.get 0 rfl) rfl) (Rn.q rfl (V.ari64 (a:=zAe x2) (b:=x0.last) rfl rfl _ rfl (zI5 _ _)) (Rn.q rfl (V.cvW underlying35 underlying3 rfl) ?_)))));obtain ⟨p15,e15,hM⟩:=zAb hM;have hm16:=hm0.cu [0] [1]
  refine Rn.a1 (cK func174) (m_vary_PutInt_sim e15 hm16.lend :) hm16 fun F15_p0 w15 hm18=>?_
  refine gg 2 rfl ?_;exact hk1 (p15,F15_p0) _ _ sA (hm18.pk [0,1]) hM
 refine gg 1 rfl ?_;refine Rn.drawP rfl hm0 ?_;intro w19 hm19;refine dq [0] ?_;refine RH.takeP 1 (by kernel_rfl) rfl rfl rfl rfl (V.cv64 underlying3 underlying35 rfl) ?_;refine dq [2,3,4] ?_;refine RH.takeP 5 (by kernel_rfl) rfl rfl rfl rfl (V.ldB isAgg35 rfl (hm19.get 0 rfl) rfl) ?_;refine RH.takeP 6 (by kernel_rfl) rfl rfl rfl rfl (V.ari64 (a:=zAe x2) (b:=x0.last) rfl rfl _ rfl (zI5 _ _)) ?_;refine dq [7,8,9] ?_;refine RH.takeP 10 (by kernel_rfl) rfl rfl rfl rfl (V.ldB isAgg35 rfl (hm19.get 0 rfl) rfl) ?_;refine RH.takeP 11 (by kernel_rfl) rfl rfl rfl rfl (V.ari64 (a:=(zAe x2)-x0.last) (b:=x0.step) rfl rfl _ rfl (zI5 _ _)) ?_;refine RH.takeP 12 (by kernel_rfl) rfl rfl rfl rfl (V.cvW underlying35 underlying3 rfl) ?_;refine dq [13] ?_;refine RH.doneP (by kernel_rfl) ?_;refine gg 3 rfl ?_;obtain ⟨p20,e20,hM⟩:=zAb hM
 refine Rn.c0 (cK func175) (zM0 (Z0:=All) e20  :) hm19 fun w20 _ hm21=>?_
 refine gg 8 rfl ?_;refine Rn.jG hm0 hM (G:=zA2×(Nat→Prop)) (fun g=>[(0,pt b0 0),(1,pt b1 0),(2,iv x2),(6,iv (W64 ((((zAe x2)-x0.last)-x0.step).toNat:Int))),(7,iv p20)]) (fun g=>[zAh b0 186 [iv x0.n,zAl x0.last,zAl x0.step],zA2.obj (g.2) b1 (g.1)]) (fun j g=>j g.1) ?_ ?_
 ·rintro ⟨y22,F22⟩ w23 hm23 hM
  try dsimp only at hM
  refine gg 6 rfl ?_;refine Rn.jG hm0 hM (G:=zA2×(Nat→Prop)) (fun g=>[(0,pt b0 0),(1,pt b1 0),(2,iv x2),(6,iv (W64 ((((zAe x2)-x0.last)-x0.step).toNat:Int))),(7,iv p20)]) (fun g=>[zAh b0 186 [iv x0.n,zAl x0.last,zAl x0.step],zA2.obj (g.2) b1 (g.1)]) (fun j g=>j g.1) ?_ ?_
  ·rintro ⟨y24,F24⟩ w25 hm25 hM
   try dsimp only at hM
   refine gg 2 rfl ?_;obtain ⟨p26,e26,hM⟩:=zAb hM
   refine Rn.c0 (cK func177) (zHo (Z0:=All) e26  :) hm25 fun w26 _ hm27=>?_
   refine gg 1 rfl ?_;obtain ⟨z28,e28,hM⟩:=zAb hM;refine Rn.q rfl (V.arE1 zYl isAgg3 rfl rfl (zNs e28 rfl) (zNh (fun x:Int=>(.int .i64 x:Value)) e28)) (gg 5 rfl (Rn.q rfl (V.cv64 underlying3 underlying35 rfl) (gg 2 rfl (Rn.q rfl (V.cv64 underlying3 underlying137 rfl) (Rn.q rfl (V.shl64 (a:=zAe (W64 ((((zAe x2)-x0.last)-x0.step).toNat:Int))) (m:=(zAe (W64 (64-z28))).toNat) rfl rfl) (gg 2 rfl (Rn.q rfl (V.cv64 underlying3 underlying137 rfl) (Rn.q rfl (V.shr64 (a:=shl64 (zAe (W64 ((((zAe x2)-x0.last)-x0.step).toNat:Int))) ((zAe (W64 (64-z28))).toNat)) (m:=(zAe (W64 (64-z28))).toNat) rfl rfl) (gg 1 rfl ?_)))))))));obtain ⟨p29,e29,hM⟩:=zAb hM;have hm30:=hm27.cu [0] [1]
   refine Rn.a1 (cK func176) (m_bitio_Writer_Put_sim e29 hm30.lend :) hm30 fun F29_p0 w29 hm32=>?_
   refine gg 2 rfl ?_;exact hk1 (p29.2,F29_p0) _ _ sA (hm32.pk [0,1]) hM
  intro j3 hM hk3;refine aD hM (fun h33 hM=>?_) (fun h33 hM=>?_)
  ·refine gg 2 rfl ?_;obtain ⟨p34,e34,hM⟩:=zAb hM;have hm35:=hm23.cu [0] [1]
   refine Rn.a1 (cK func176) (m_bitio_Writer_Put_sim e34 hm35.lend :) hm35 fun F34_p0 w34 hm37=>?_
   refine gg 1 rfl ?_;exact hk3 (p34.2,F34_p0) _ _ sA (hm37.pk [0,1]) hM
  refine gg 1 rfl ?_;exact hk3 (y22,F22) _ _ sA (hm23.pk [0,1]) hM
 intro j2 hM hk2;refine gg 1 rfl ?_;refine Rn.loopF (G:=Int×zA2×(Nat→Prop)) (fun g=>[(0,pt b0 0),(1,pt b1 0),(2,iv x2),(6,iv (W64 ((((zAe x2)-x0.last)-x0.step).toNat:Int))),(7,iv p20),(28,iv p20),(29,iv (g.1))]) (fun g w'=>Hp Z0 (LS [zAh b0 186 [iv x0.n,zAl x0.last,zAl x0.step],zA2.obj F1 b1 x1]) w w' [zAh b0 186 [iv x0.n,zAl x0.last,zAl x0.step],zA2.obj (g.2.2) b1 (g.2.1)]) (fun n g=>zD2 p20 j2 n g.1 g.2.1) fuel (0,x1,F1) sA (hm21.pk [0,1]) hM (fun _=>rfl) ?_;clear hM;rintro m40 ⟨y38,y39,F39⟩ w40 hm40 hM hn40;replace hM:zD2 p20 j2 (m40+1) y38 y39=some r:=hM;rw [zD2] at hM;refine gg 5 rfl ?_;refine aD hM (fun h41 hM=>?_) (fun h41 hM=>?_)
 ·refine gg 5 rfl ?_;obtain ⟨p42,e42,hM⟩:=zAb hM;have hm43:=hm40.cu [0] [1]
  refine Rn.a1 (cK func176) (m_bitio_Writer_Put_sim e42 hm43.lend :) hm43 fun F42_p0 w42 hm45=>?_
  refine gg 6 rfl ?_;exact hn40 ((W64 (y38+1)),p42.2,F42_p0) _ _ sA (hm45.pk [0,1]) hM
 refine gg 1 rfl ?_;exact hk2 (y39,F39) _ _ sA (hm40.pk [0,1]) hM
theorem zGf {x0:zA3} {r:zE5} (hM:zFo x0=some r) (h0:zA3.rep.rel Z0 w cs0 x0) :
 Calls prog 144 #[.agg cs0.toArray] w fun x w'=>x=.returned (.agg [iv r.scale,iv r.posAt,iv r.posSize,iv r.negAt,iv r.negSize].toArray)∧Hp Z0 No w w' []:=by
 have hm0:=Hp.nil Z0 No w;have hc0:=Calm.nil;obtain ⟨Ar1,cr1,Ar3,cr3,rfl,fs1,fs3⟩:=zA3.relE h0;obtain ⟨hm5,hc0⟩:=hm0.kn (r:=slR Ar1 cr1 zAq x0.Pos.Counts) hc0 fs1;obtain ⟨hm6,hc0⟩:=hm5.kn (r:=slR Ar3 cr3 zAq x0.Neg.Counts) hc0 fs3;refine Rn.en func144 ?_;refine gg 2 rfl (Rn.box rfl rfl rfl rfl rfl ?_);intro b7 w7 hb7 m7 e7;have hm9:=(hm6.addBox hb7 e7 m7).nf [_,_,zAh _ _ [_,_,_,_,_,_]] rfl;refine Rn.alloc rfl rfl rfl Tryz.zeroValue206 rfl ?_;intro b10 w10 hb10 m10 e10;have hm12:=(hm9.addBox hb10 e10 m10).nf [_,_,_,zAh _ _ [_,_,_,_,_]] rfl;refine gg 4 rfl (Rn.q rfl (V.ldB isAgg3 rfl (hm12.get 2 rfl) rfl) (gg 2 rfl (Rn.q rfl (V.ldB isAgg3 rfl (hm12.get 2 rfl) rfl) (gg 2 rfl (Rn.q rfl (V.ldB isAgg36 rfl (hm12.get 2 rfl) rfl) (Rn.q rfl (V.lenV underlying36 rfl) (gg 2 rfl (Rn.q rfl (V.ldB isAgg3 rfl (hm12.get 2 rfl) rfl) (gg 2 rfl (Rn.q rfl (V.ldB isAgg36 rfl (hm12.get 2 rfl) rfl) (Rn.q rfl (V.lenV underlying36 rfl) (Rn.q rfl (V.bldS (cs:=[_,_,_,_,_]) st206 rfl rfl) (Rn.sq rfl sizeOf206 rfl rfl (hm12.get 3 rfl) ?_)))))))))))));intro w13 m13 x13;have hm14:=(hm12.st 3 rfl x13 m13).nf [_,_,_,zAh _ _ [_,_,_,_,_]] rfl;refine gg 1 rfl ?_;refine Rn.retG1 func144 rfl (rvC rfl isAgg206 sizeOf206 (hm14.get 3 rfl) rfl) ?_;obtain rfl:=zDt hM;exact ⟨rfl,hm14.pk []⟩
theorem zEz {x0:zA3} {r:(List UInt64)} (hM:zCh x0=some r) (h0:zA3.rep.rel Z0 w cs0 x0) :
 Calls prog 139 #[.agg cs0.toArray] w fun x w'=>∃ A_0_0 c_0_0,x=.returned (.slice A_0_0 (r).length c_0_0)∧Hp Z0 No w w' [zBi 35 A_0_0 c_0_0 zAq r]:=by
 have hm0:=Hp.nil Z0 No w;have hc0:=Calm.nil;obtain ⟨Ar1,cr1,Ar3,cr3,rfl,fs1,fs3⟩:=zA3.relE h0;obtain ⟨hm5,hc0⟩:=hm0.kn (r:=slR Ar1 cr1 zAq x0.Pos.Counts) hc0 fs1;obtain ⟨hm6,hc0⟩:=hm5.kn (r:=slR Ar3 cr3 zAq x0.Neg.Counts) hc0 fs3;refine Rn.en func139 ?_;refine gg 2 rfl (Rn.box rfl rfl rfl rfl rfl ?_);intro b7 w7 hb7 m7 e7;have hm9:=(hm6.addBox hb7 e7 m7).nf [_,_,zAh _ _ [_,_,_,_,_,_]] rfl;refine gg 5 rfl (Rn.q rfl (V.ldB isAgg35 rfl (hm9.get 2 rfl) rfl) (Rn.bslS rfl rfl rfl underlying36 zau rfl rfl rfl rfl (by first|exact szs rfl|(simp [Value.cells];done)) (by decide) ?_));intro b10 w10 hb10 m10 e10;have hm11:=hm9.addLit (rep:=zAq) (xs:=([x0.Zero]:List UInt64)) (vss:=[[zAl x0.Zero]]) hb10 e10 m10 rfl rfl rfl ((zMk (fun _ _=>⟨rfl,trivial⟩) zVb));refine gg 7 rfl (Rn.q rfl (V.ldB isAgg36 rfl (hm11.get 2 rfl) rfl) ?_);obtain ⟨z13,e13,hM⟩:=zAb hM;refine Rn.appH hm11 3 rfl e13 rfl rfl rfl underlying36 zau rfl rfl rfl rfl (hm11.src 0 rfl) ?_;intro A13 c13 w13 hm13;refine gg 7 rfl (Rn.q rfl (V.ldB isAgg36 rfl (hm13.get 2 rfl) rfl) ?_);obtain ⟨z15,e15,hM⟩:=zAb hM;refine Rn.appH hm13 3 rfl e15 rfl rfl rfl underlying36 zau rfl rfl rfl rfl (hm13.src 1 rfl) ?_;intro A15 c15 w15 hm15;refine gg 2 rfl ?_
 cases hM
 exact Rn.R1 func139 ⟨A15,c15,rfl,hm15.pk [3]⟩
end Go.Proofs.YthjhejgjcdajdaaGreatDoor
