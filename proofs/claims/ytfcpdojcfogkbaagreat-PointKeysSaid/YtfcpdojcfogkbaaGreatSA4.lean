/-
  The calls of functions of the program answer as their plain forms say, part 4. Printed by a program.
-/
import Derived.Test.YtfcpdojcfogkbaaGreatRows
import Derived.Test.YtfcpdojcfogkbaaGreatSA3
set_option maxRecDepth 20000
set_option maxHeartbeats 4000000
set_option linter.unusedVariables false
set_option linter.unusedSimpArgs false
namespace Go.Proofs.YtfcpdojcfogkbaaGreat
open Go Go.RowKit Go.Wk
theorem m_pack_Reader_Text_sim {Z0 : Nat → Prop} {w : World} {F0 : Nat → Prop} {b0 : Nat} {x0 : T_pack_Reader} {x1 : Int} {r : ((List UInt8) × T_pack_Reader)} (hM : m_pack_Reader_Text x0 x1 = some r) (hL : Lent Z0 w [T_pack_Reader.obj F0 b0 x0]) :
    Calls Tryz.prog 36 #[.pointer (some ⟨b0, 0, none⟩), .int .i64 (x1)] w fun x w' => ∃ F_p0, x = .returned (Str (r.1)) ∧ Hp Z0 (LS [T_pack_Reader.obj F0 b0 x0]) w w' [T_pack_Reader.obj F_p0 b0 r.2] := by
 have hm0 := hL.start
 refine Rn.enter Tryz.func36 rfl rfl (Nat.le_of_ble_eq_true rfl) ?_
 refine gg 9 rfl ?_
 obtain ⟨_, ⟨A2_0, c2_0, rfl⟩, hm2⟩ := hm0.unf 0 rfl
 replace hm2 := hm2.nf [_, _] rfl
 refine Rn.q rfl (V.ldB Tryz.isAgg3 rfl (hm2.get 0 rfl) rfl) (gg 7 rfl ?_)
 have hm5 := hm2.dup 1 rfl (fun _ h => h)
 have hm8 := (hm5.cut [1] [0, 2] rfl (by decide)).nf ([_] ++ [_, _]) rfl
 obtain ⟨F7, hm7⟩ := hm8.fold (T_pack_Reader.sh b0 x0) ⟨A2_0, c2_0, rfl⟩
 obtain ⟨p4, e4, hM⟩ := bindE hM
 have hm9 := (hm7.cut [0] [1] rfl (by decide)).nf ([_] ++ [_]) rfl
 refine Rn.cl ck37 rfl rfl rfl rfl (m_pack_Reader_Count_sim e4 hm9.lend :) ?_
 rintro _ w4 ⟨F4_p0, rfl, hq4⟩
 refine ⟨_, rfl, ?_⟩
 have hm11 := hm9.callAZ hq4
 obtain ⟨p12, e12, hM⟩ := bindE hM
 have hm13 := (hm11.cut [0] [1] rfl (by decide)).nf ([_] ++ [_]) rfl
 refine Rn.cl ck62 rfl rfl rfl rfl (m_pack_Reader_Raw_sim e12 hm13.lend :) ?_
 rintro _ w12 ⟨A12_0_0, c12_0_0, F12_p0, rfl, hq12⟩
 refine ⟨_, rfl, ?_⟩
 have hm16 := hm13.callAZ hq12
 refine gg 8 rfl ?_
 obtain ⟨_, ⟨A17_0, c17_0, rfl⟩, hm17⟩ := hm16.unf 2 rfl
 replace hm17 := hm17.nf [_, _, _, _] rfl
 refine Rn.q rfl (V.ldB Tryz.isAgg34 rfl (hm17.get 2 rfl) rfl) (gg 2 rfl ?_)
 have hm19 := hm17.dup 3 rfl (fun _ h => h)
 have hm22 := (hm19.cut [0, 1, 3] [2, 4] rfl (by decide)).nf ([_, _, _] ++ [_, _]) rfl
 obtain ⟨F21, hm21⟩ := hm22.fold (T_pack_Reader.sh b0 p12.2) ⟨A17_0, c17_0, rfl⟩
 obtain ⟨j1, hj1, hM⟩ := jnE hM
 refine Rn.joinG (r := r) (G := T_pack_Reader × (Nat → Prop)) (fun g => [(6, .slice A12_0_0 (p12.1).length c12_0_0)]) (fun g w' => Hp Z0 (LS [T_pack_Reader.obj F0 b0 x0]) w w' [ownR 5 A12_0_0 c12_0_0 byteR p12.1, T_pack_Reader.obj (g.2) b0 (g.1)]) (fun g => j1 g.1) ?_ ?_
 ·subst hj1
  clear hM
  rintro ⟨y23, F23⟩ w24 hm24 hM
  try dsimp only at hM
  refine gg 3 rfl (Rn.q rfl (V.b2s Tryz.underlying33 Tryz.underlying9 Tryz.underlying5 rfl rfl (Own.sl (hm24.get 0 rfl))) (gg 2 rfl ?_))
  refine Rn.retG1 Tryz.func36 rfl (rvT rfl) ?_
  obtain rfl := someE hM
  exact ⟨F23, rfl, hm24.pick [1] rfl (by decide)⟩
 intro hk1
 clear hj1
 refine Rn.condD rfl (fun h25 => ?_) (fun h25 => ?_)
 ·replace hM := iteT h25 hM
  refine gg 5 rfl ?_
  obtain ⟨_, ⟨A26_0, c26_0, rfl⟩, hm26⟩ := hm21.unf 3 rfl
  replace hm26 := hm26.nf [_, _, _, _, _] rfl
  refine Rn.st rfl rfl Tryz.sizeOf3 rfl rfl rfl rfl (by first | exact ones rfl | (simp [Value.oneCell']; done)) (hm26.get 3 rfl) (by first | exact Nat.le_of_ble_eq_true rfl | (simp; done)) ?_
  intro w28 m28 x28
  have hm29 := (hm26.st 3 rfl x28 m28).nf [_, _, _, boxR _ _ [_, _, _], _] rfl
  refine gg 1 rfl ?_
  have hm30 := hm29.dup 4 rfl (fun _ h => h)
  have hm33 := (hm30.cut [0, 1, 2, 4] [3, 5] rfl (by decide)).nf ([_, _, _, _] ++ [_, _]) rfl
  obtain ⟨F32, hm32⟩ := hm33.fold (T_pack_Reader.sh b0 ({ b := p12.2.b, at_ := x0.at_, e := p12.2.e } : T_pack_Reader)) ⟨A26_0, c26_0, rfl⟩
  exact hk1 (({ b := p12.2.b, at_ := x0.at_, e := p12.2.e } : T_pack_Reader), F32) _ _ (Sub.cons rfl (Sub.nil _)) (hm32.pick [1, 4] rfl (by decide)) hM
 ·replace hM := iteF h25 hM
  refine gg 1 rfl ?_
  exact hk1 (p12.2, F21) _ _ (Sub.cons rfl (Sub.nil _)) (hm21.pick [1, 3] rfl (by decide)) hM

theorem m_pack_Zag_sim {Z0 : Nat → Prop} {w : World} {x0 : UInt64} {r : Int} (hM : m_pack_Zag x0 = some r)  :
    Calls Tryz.prog 86 #[.int .u64 (((x0).toNat : Nat) : Int)] w fun x w' => x = .returned (.int .i64 (r)) ∧ Hp Z0 No w w' [] := by
 have hm0 := Hp.nil Z0 No w
 have hc0 := Calm.nil
 refine Rn.enter Tryz.func86 rfl rfl (Nat.le_of_ble_eq_true rfl) ?_
 refine gg 7 rfl (Rn.q rfl (V.sh64 rfl rfl _ 1 rfl rfl (b64_shr _ _ _ 1 (by decide))) (Rn.q rfl (V.cvW Tryz.underlying23 Tryz.underlying3 rfl) (gg 1 rfl (Rn.q rfl (V.o64 rfl rfl x0 (1 : UInt64) rfl rfl (b64_and _ _ _)) (Rn.q rfl (V.cvW Tryz.underlying23 Tryz.underlying3 rfl) (Rn.q rfl (V.negI rfl) (Rn.q rfl (V.xorZ rfl rfl) (gg 2 rfl ?_))))))))
 refine Rn.retG1 Tryz.func86 rfl (rvT rfl) ?_
 obtain rfl := someE hM
 exact ⟨rfl, hm0.pick [] rfl (by decide)⟩

theorem m_pack_Reader_Int_sim {Z0 : Nat → Prop} {w : World} {F0 : Nat → Prop} {b0 : Nat} {x0 : T_pack_Reader} {r : (Int × T_pack_Reader)} (hM : m_pack_Reader_Int x0 = some r) (hL : Lent Z0 w [T_pack_Reader.obj F0 b0 x0]) :
    Calls Tryz.prog 65 #[.pointer (some ⟨b0, 0, none⟩)] w fun x w' => ∃ F_p0, x = .returned (.int .i64 (r.1)) ∧ Hp Z0 (LS [T_pack_Reader.obj F0 b0 x0]) w w' [T_pack_Reader.obj F_p0 b0 r.2] := by
 have hm0 := hL.start
 refine Rn.enter Tryz.func65 rfl rfl (Nat.le_of_ble_eq_true rfl) ?_
 refine gg 7 rfl ?_
 obtain ⟨p2, e2, hM⟩ := bindE hM
 have hm3 := (hm0.cut [] [0] rfl (by decide)).nf ([] ++ [_]) rfl
 refine Rn.cl ck63 rfl rfl rfl rfl (m_pack_Reader_Num_sim e2 hm3.lend :) ?_
 rintro _ w2 ⟨F2_p0, rfl, hq2⟩
 refine ⟨_, rfl, ?_⟩
 have hm5 := hm3.callAZ hq2
 obtain ⟨p6, e6, hM⟩ := bindE hM
 refine Rn.cl ck86 rfl rfl rfl rfl (m_pack_Zag_sim (Z0 := All) e6  :) ?_
 rintro _ w6 ⟨rfl, hq6⟩
 refine ⟨_, rfl, ?_⟩
 have hm7 := hm5.call0 hq6
 refine gg 2 rfl ?_
 refine Rn.retG1 Tryz.func65 rfl (rvT rfl) ?_
 obtain rfl := someE hM
 exact ⟨F2_p0, rfl, hm7.pick [0] rfl (by decide)⟩

theorem m_pack_Reader_Fix_sim {Z0 : Nat → Prop} {w : World} {F0 : Nat → Prop} {b0 : Nat} {x0 : T_pack_Reader} {r : (UInt64 × T_pack_Reader)} (hM : m_pack_Reader_Fix x0 = some r) (hL : Lent Z0 w [T_pack_Reader.obj F0 b0 x0]) :
    Calls Tryz.prog 66 #[.pointer (some ⟨b0, 0, none⟩)] w fun x w' => ∃ F_p0, x = .returned (.int .u64 (((r.1).toNat : Nat) : Int)) ∧ Hp Z0 (LS [T_pack_Reader.obj F0 b0 x0]) w w' [T_pack_Reader.obj F_p0 b0 r.2] := by
 have hm0 := hL.start
 refine Rn.enter Tryz.func66 rfl rfl (Nat.le_of_ble_eq_true rfl) ?_
 refine gg 12 rfl ?_
 obtain ⟨p2, e2, hM⟩ := bindE hM
 have hm3 := (hm0.cut [] [0] rfl (by decide)).nf ([] ++ [_]) rfl
 refine Rn.cl ck62 rfl rfl rfl rfl (m_pack_Reader_Raw_sim e2 hm3.lend :) ?_
 rintro _ w2 ⟨A2_0_0, c2_0_0, F2_p0, rfl, hq2⟩
 refine ⟨_, rfl, ?_⟩
 have hm6 := hm3.callAZ hq2
 refine Rn.q rfl (V.lenV Tryz.underlying33 rfl) (gg 2 rfl ?_)
 obtain ⟨j1, hj1, hM⟩ := jnE hM
 refine Rn.joinG (r := r) (G := UInt64 × (Nat → Prop)) (fun g => [(3, .int .u64 ((((g.1)).toNat : Nat) : Int))]) (fun g w' => Hp Z0 (LS [T_pack_Reader.obj F0 b0 x0]) w w' [ownR 5 A2_0_0 c2_0_0 byteR p2.1, T_pack_Reader.obj (g.2) b0 p2.2]) (fun g => j1 g.1) ?_ ?_
 ·subst hj1
  clear hM
  rintro ⟨y8, F7⟩ w9 hm9 hM
  try dsimp only at hM
  refine gg 5 rfl ?_
  refine Rn.retG1 Tryz.func66 rfl (rvT rfl) ?_
  obtain rfl := someE hM
  exact ⟨F7, rfl, hm9.pick [1] rfl (by decide)⟩
 intro hk1
 clear hj1
 refine gg 1 rfl ?_
 refine Rn.loopF (G := UInt64 × Int × (Nat → Prop)) (fun g => [(3, .int .u64 ((((g.1)).toNat : Nat) : Int)), (7, .slice A2_0_0 (p2.1).length c2_0_0), (8, .int .i64 ((p2.1.length : Int))), (9, .int .i64 ((g.2.1)))]) (fun g w' => Hp Z0 (LS [T_pack_Reader.obj F0 b0 x0]) w w' [ownR 5 A2_0_0 c2_0_0 byteR p2.1, T_pack_Reader.obj (g.2.2) b0 p2.2]) (fun n g => m_pack_Reader_Fix_L1 p2 j1 n g.1 g.2.1) fuel ((0 : UInt64), 0, F2_p0) (Sub.cons rfl (Sub.cons rfl (Sub.cons rfl (Sub.cons rfl (Sub.nil _))))) (hm6.pick [0, 1] rfl (by decide)) hM (fun _ => rfl) ?_
 clear hM
 rintro m13 ⟨y11, y12, F10⟩ w13 hm13 hM hn13
 replace hM : m_pack_Reader_Fix_L1 p2 j1 (m13 + 1) y11 y12 = some r := hM
 rw [m_pack_Reader_Fix_L1] at hM
 refine gg 5 rfl ?_
 refine Rn.condD rfl (fun h14 => ?_) (fun h14 => ?_)
 ·replace hM := iteT h14 hM
  refine gg 6 rfl ?_
  obtain ⟨z15, e15, hM⟩ := bindE hM
  obtain ⟨kk15, ke15, kz15, kl15⟩ := idxE e15
  obtain ⟨g15, vs15, hA15, hR15, hrel15⟩ := hm13.ownAt 0 rfl kz15
  subst hA15
  obtain ⟨rfl, _⟩ := hrel15
  refine Rn.q rfl (V.ixE kk15 Tryz.underlying33 Tryz.sizeOf5 rfl rfl ke15 kl15) (Rn.q rfl (V.ldR0 Tryz.isAgg5 rfl hR15 rfl) (gg 6 rfl (Rn.q rfl (V.cv64 Tryz.underlying5 Tryz.underlying23 rfl) (gg 2 rfl (Rn.q rfl (V.cv64 Tryz.underlying3 Tryz.underlying92 rfl) (Rn.q rfl (V.shl64 (a := toU64 ((z15).toNat : Int)) (m := (toU64 (W64 (8 * y12))).toNat) rfl rfl) (Rn.q rfl (V.o64 rfl rfl y11 (shl64 (toU64 ((z15).toNat : Int)) ((toU64 (W64 (8 * y12))).toNat)) rfl rfl (b64_or _ _ _)) (gg 7 rfl ?_))))))))
  exact hn13 ((y11 ||| (shl64 (toU64 ((z15).toNat : Int)) ((toU64 (W64 (8 * y12))).toNat))), (W64 (y12 + 1)), F10) _ _ (Sub.cons rfl (Sub.cons rfl (Sub.cons rfl (Sub.cons rfl (Sub.nil _))))) (hm13.pick [0, 1] rfl (by decide)) hM
 ·replace hM := iteF h14 hM
  refine gg 1 rfl ?_
  exact hk1 (y11, F10) _ _ (Sub.cons rfl (Sub.nil _)) (hm13.pick [0, 1] rfl (by decide)) hM

theorem m_pack_Reader_Err_sim {Z0 : Nat → Prop} {w : World} {F0 : Nat → Prop} {b0 : Nat} {x0 : T_pack_Reader} {r : Int} (hM : m_pack_Reader_Err x0 = some r) (f0 : (fzR (T_pack_Reader.obj F0 b0 x0)).H Z0 w) :
    Calls Tryz.prog 87 #[.pointer (some ⟨b0, 0, none⟩)] w fun x w' => x = .returned (.int .i64 (r)) ∧ Hp Z0 No w w' [] := by
 have hm0 := Hp.nil Z0 No w
 have hc0 := Calm.nil
 have hm2 := hm0.know (fzR (T_pack_Reader.obj F0 b0 x0)) (fun _ h => h) (hm0.in0 hc0 f0)
 replace hc0 := hc0.snoc (r := fzR (T_pack_Reader.obj F0 b0 x0)) (fun _ h => h)
 refine Rn.enter Tryz.func87 rfl rfl (Nat.le_of_ble_eq_true rfl) ?_
 refine gg 9 rfl ?_
 obtain ⟨_, ⟨A3_0, c3_0, rfl⟩, hm3⟩ := hm2.unfz 0 rfl
 replace hm3 := hm3.nf [_, _, _] rfl
 have hm7 := hm3.fzS 2 rfl
 refine Rn.q rfl (V.ldB Tryz.isAgg34 rfl (hm7.getz 1 rfl) rfl) (gg 2 rfl ?_)
 refine Rn.retG1 Tryz.func87 rfl (rvT rfl) ?_
 obtain rfl := someE hM
 exact ⟨rfl, hm7.pick [] rfl (by decide)⟩

theorem m_point_reader_signed_sim {Z0 : Nat → Prop} {w : World} {F0 : Nat → Prop} {b0 : Nat} {x0 : T_point_reader} {r : (Int × T_point_reader)} (hM : m_point_reader_signed x0 = some r) (hL : Lent Z0 w [T_point_reader.obj F0 b0 x0]) :
    Calls Tryz.prog 67 #[.pointer (some ⟨b0, 0, none⟩)] w fun x w' => ∃ F_p0, x = .returned (.int .i64 (r.1)) ∧ Hp Z0 (LS [T_point_reader.obj F0 b0 x0]) w w' [T_point_reader.obj F_p0 b0 r.2] := by
 have hm0 := hL.start
 refine Rn.enter Tryz.func67 rfl rfl (Nat.le_of_ble_eq_true rfl) ?_
 refine gg 9 rfl ?_
 obtain ⟨_, ⟨F2_0, b2_0, rfl⟩, hm2⟩ := hm0.unf 0 rfl
 replace hm2 := hm2.nf [_, _] rfl
 refine Rn.q rfl (V.ldB Tryz.isAgg65 rfl (hm2.get 0 rfl) rfl) ?_
 obtain ⟨p4, e4, hM⟩ := bindE hM
 have hm5 := (hm2.cut [0] [1] rfl (by decide)).nf ([_] ++ [_]) rfl
 refine Rn.cl ck65 rfl rfl rfl rfl (m_pack_Reader_Int_sim e4 hm5.lend :) ?_
 rintro _ w4 ⟨F4_p0, rfl, hq4⟩
 refine ⟨_, rfl, ?_⟩
 have hm7 := hm5.callAZ hq4
 refine gg 8 rfl (Rn.q rfl (V.ldB Tryz.isAgg34 rfl (hm7.get 0 rfl) rfl) (gg 2 rfl ?_))
 have hm9 := (hm7.cut [] [0, 1] rfl (by decide)).nf ([] ++ [_, _]) rfl
 obtain ⟨F8, hm8⟩ := hm9.fold (T_point_reader.sh b0 ({ Reader := p4.2, e := x0.e } : T_point_reader)) ⟨F4_p0, b2_0, rfl⟩
 obtain ⟨j1, hj1, hM⟩ := jnE hM
 refine Rn.joinR (r := r) (G := Bool × (Nat → Prop)) [13, 14, 15, 16, 17] (fun g => [(0, .pointer (some ⟨b0, 0, none⟩)), (3, .int .i64 (p4.1)), (21, .bool ((g.1)))]) (fun g w' => Hp Z0 (LS [T_point_reader.obj F0 b0 x0]) w w' [T_point_reader.obj (g.2) b0 ({ Reader := p4.2, e := x0.e } : T_point_reader)]) (fun g => j1 g.1) ?_ ?_
 ·subst hj1
  clear hM
  rintro ⟨y11, F10⟩ w12 hm12 hM
  try dsimp only at hM
  refine gg 1 rfl ?_
  obtain ⟨j2, hj2, hM⟩ := jnE hM
  refine Rn.joinR (r := r) (G := Bool × (Nat → Prop)) [] (fun g => [(0, .pointer (some ⟨b0, 0, none⟩)), (3, .int .i64 (p4.1)), (26, .bool ((g.1)))]) (fun g w' => Hp Z0 (LS [T_point_reader.obj F0 b0 x0]) w w' [T_point_reader.obj (g.2) b0 ({ Reader := p4.2, e := x0.e } : T_point_reader)]) (fun g => j2 g.1) ?_ ?_
  ·subst hj2
   clear hM
   rintro ⟨y14, F13⟩ w15 hm15 hM
   try dsimp only at hM
   refine gg 1 rfl ?_
   obtain ⟨j3, hj3, hM⟩ := jnE hM
   refine Rn.joinG (r := r) (G := T_point_reader × (Nat → Prop)) (fun g => [(3, .int .i64 (p4.1))]) (fun g w' => Hp Z0 (LS [T_point_reader.obj F0 b0 x0]) w w' [T_point_reader.obj (g.2) b0 (g.1)]) (fun g => j3 g.1) ?_ ?_
   ·subst hj3
    clear hM
    rintro ⟨y16, F16⟩ w17 hm17 hM
    try dsimp only at hM
    refine gg 5 rfl ?_
    refine Rn.retG1 Tryz.func67 rfl (rvT rfl) ?_
    obtain rfl := someE hM
    exact ⟨F16, rfl, hm17.pick [0] rfl (by decide)⟩
   intro hk3
   clear hj3
   refine Rn.condS rfl (fun h18 => ?_) (fun h18 => ?_)
   ·replace hM := iteT h18 hM
    refine gg 4 rfl ?_
    obtain ⟨_, ⟨F19_0, b19_0, rfl⟩, hm19⟩ := hm15.unf 0 rfl
    replace hm19 := hm19.nf [_, _] rfl
    refine Rn.st rfl rfl Tryz.sizeOf34 rfl rfl rfl rfl (by first | exact ones rfl | (simp [Value.oneCell']; done)) (hm19.get 0 rfl) (by first | exact Nat.le_of_ble_eq_true rfl | (simp; done)) ?_
    intro w21 m21 x21
    have hm22 := (hm19.st 0 rfl x21 m21).nf [boxR _ _ [_, _], _] rfl
    refine gg 1 rfl ?_
    have hm24 := (hm22.cut [] [0, 1] rfl (by decide)).nf ([] ++ [_, _]) rfl
    obtain ⟨F23, hm23⟩ := hm24.fold (T_point_reader.sh b0 ({ Reader := p4.2, e := 4 } : T_point_reader)) ⟨F19_0, b19_0, rfl⟩
    exact hk3 (({ Reader := p4.2, e := 4 } : T_point_reader), F23) _ _ (Sub.cons rfl (Sub.nil _)) (hm23.pick [0] rfl (by decide)) hM
   ·replace hM := iteFB hM h18
    refine gg 1 rfl ?_
    exact hk3 (({ Reader := p4.2, e := x0.e } : T_point_reader), F13) _ _ (Sub.cons rfl (Sub.nil _)) (hm15.pick [0] rfl (by decide)) hM
  intro hk2
  clear hj2
  refine Rn.part (t := 22) rfl (fun h25 => ?_) (fun h25 => ?_)
  ·replace hM := iteT h25 hM
   refine gg 1 rfl ?_
   obtain ⟨p26, e26, hM⟩ := bindE hM
   refine Rn.cl ck51 rfl rfl rfl rfl (m_pack_Zig_sim (Z0 := All) e26  :) ?_
   rintro _ w26 ⟨rfl, hq26⟩
   refine ⟨_, rfl, ?_⟩
   have hm27 := hm12.call0 hq26
   refine Rn.q rfl (V.gtr rfl rfl) (gg 1 rfl ?_)
   exact hk2 ((decide (((p26).toNat : Int) > 9007199254740992)), F10) _ _ (Sub.cons rfl (Sub.cons rfl (Sub.cons rfl (Sub.nil _)))) (hm27.pick [0] rfl (by decide)) hM
  ·replace hM := iteFB hM h25
   refine gg 4 rfl ?_
   exact hk2 (false, F10) _ _ (Sub.cons rfl (Sub.cons rfl (Sub.cons rfl (Sub.nil _)))) (hm12.pick [0] rfl (by decide)) hM
 intro hk1
 clear hj1
 refine Rn.partD (t := 14) rfl (fun h28 => ?_) (fun h28 => ?_)
 ·replace hM := iteT h28 hM
  refine gg 3 rfl ?_
  obtain ⟨_, ⟨F29_0, b29_0, rfl⟩, hm29⟩ := hm8.unf 0 rfl
  replace hm29 := hm29.nf [_, _] rfl
  refine Rn.q rfl (V.ldB Tryz.isAgg65 rfl (hm29.get 0 rfl) rfl) ?_
  obtain ⟨p31, e31, hM⟩ := bindE hM
  refine Rn.cl ck87 rfl rfl rfl rfl (m_pack_Reader_Err_sim (Z0 := All) e31 (fz_all (hm29.get 1 rfl)) :) ?_
  rintro _ w31 ⟨rfl, hq31⟩
  refine ⟨_, rfl, ?_⟩
  have hm32 := hm29.call0 hq31
  refine gg 2 rfl ?_
  have hm34 := (hm32.cut [] [0, 1] rfl (by decide)).nf ([] ++ [_, _]) rfl
  obtain ⟨F33, hm33⟩ := hm34.fold (T_point_reader.sh b0 ({ Reader := p4.2, e := x0.e } : T_point_reader)) ⟨F29_0, b29_0, rfl⟩
  exact hk1 ((decide (p31 = 0)), F33) _ _ (Sub.cons rfl (Sub.cons rfl (Sub.cons rfl (Sub.nil _)))) (hm33.pick [0] rfl (by decide)) hM
 ·replace hM := iteF h28 hM
  refine gg 7 rfl ?_
  exact hk1 (false, F8) _ _ (Sub.cons rfl (Sub.cons rfl (Sub.cons rfl (Sub.nil _)))) (hm8.pick [0] rfl (by decide)) hM

theorem m_point_reader_side_sim {Z0 : Nat → Prop} {w : World} {F0 : Nat → Prop} {b0 : Nat} {x0 : T_point_reader} {r : (T_api_Side × T_point_reader)} (hM : m_point_reader_side x0 = some r) (hL : Lent Z0 w [T_point_reader.obj F0 b0 x0]) :
    Calls Tryz.prog 68 #[.pointer (some ⟨b0, 0, none⟩)] w fun x w' => ∃ A_0_0 c_0_0 F_p0, x = .returned (.agg [.int .i64 (r.1.Offset), .slice A_0_0 (r.1.Counts).length c_0_0].toArray) ∧ Hp Z0 (LS [T_point_reader.obj F0 b0 x0]) w w' [ownR 23 A_0_0 c_0_0 w64R r.1.Counts, T_point_reader.obj F_p0 b0 r.2] := by
 have hm0 := hL.start
 refine Rn.enter Tryz.func68 rfl rfl (Nat.le_of_ble_eq_true rfl) ?_
 refine gg 2 rfl (Rn.alloc rfl rfl rfl Tryz.zeroValue26 rfl ?_)
 intro b2 w2 hb2 m2 e2
 have hm4 := (hm0.addBox hb2 e2 m2).nf [_, boxR _ _ [_, _]] rfl
 refine gg 11 rfl ?_
 obtain ⟨_, ⟨F5_0, b5_0, rfl⟩, hm5⟩ := hm4.unf 0 rfl
 replace hm5 := hm5.nf [_, _, _] rfl
 refine Rn.q rfl (V.ldB Tryz.isAgg34 rfl (hm5.get 1 rfl) rfl) (gg 2 rfl ?_)
 have hm8 := (hm5.cut [0] [1, 2] rfl (by decide)).nf ([_] ++ [_, _]) rfl
 obtain ⟨F7, hm7⟩ := hm8.fold (T_point_reader.sh b0 x0) ⟨F5_0, b5_0, rfl⟩
 obtain ⟨j1, hj1, hM⟩ := jnE hM
 refine Rn.joinG (r := r) (G := Int × T_point_reader × (Nat → Prop)) (fun g => [(0, .pointer (some ⟨b0, 0, none⟩)), (2, .pointer (some ⟨b2, 0, none⟩)), (3, .int .i64 ((g.1)))]) (fun g w' => Hp Z0 (LS [T_point_reader.obj F0 b0 x0]) w w' [boxR b2 26 [.int .i64 (0), .slice none 0 0], T_point_reader.obj (g.2.2) b0 (g.2.1)]) (fun g => j1 g.1 g.2.1) ?_ ?_
 ·subst hj1
  clear hM
  rintro ⟨y9, y10, F10⟩ w11 hm11 hM
  try dsimp only at hM
  refine gg 6 rfl ?_
  obtain ⟨j2, hj2, hM⟩ := jnE hM
  refine Rn.joinG (r := r) (G := T_point_reader × T_api_Side × (Nat → Prop) × Option Addr × Nat) (fun g => [(0, .pointer (some ⟨b0, 0, none⟩)), (2, .pointer (some ⟨b2, 0, none⟩)), (3, .int .i64 (y9))]) (fun g w' => Hp Z0 (LS [T_point_reader.obj F0 b0 x0]) w w' [T_point_reader.obj (g.2.2.1) b0 (g.1), ownR 23 (g.2.2.2.1) (g.2.2.2.2) w64R (g.2.1).Counts, boxR b2 26 [.int .i64 ((g.2.1).Offset), .slice (g.2.2.2.1) ((g.2.1).Counts).length (g.2.2.2.2)]]) (fun g => j2 g.1 g.2.1) ?_ ?_
  ·subst hj2
   clear hM
   rintro ⟨y12, y13, F12, A14, c14⟩ w16 hm16 hM
   try dsimp only at hM
   refine gg 5 rfl ?_
   obtain ⟨j3, hj3, hM⟩ := jnE hM
   refine Rn.joinG (r := r) (G := T_point_reader × T_api_Side × (Nat → Prop) × Option Addr × Nat) (fun g => [(2, .pointer (some ⟨b2, 0, none⟩))]) (fun g w' => Hp Z0 (LS [T_point_reader.obj F0 b0 x0]) w w' [T_point_reader.obj (g.2.2.1) b0 (g.1), ownR 23 (g.2.2.2.1) (g.2.2.2.2) w64R (g.2.1).Counts, boxR b2 26 [.int .i64 ((g.2.1).Offset), .slice (g.2.2.2.1) ((g.2.1).Counts).length (g.2.2.2.2)]]) (fun g => j3 g.1 g.2.1) ?_ ?_
   ·subst hj3
    clear hM
    rintro ⟨y17, y18, F17, A19, c19⟩ w21 hm21 hM
    try dsimp only at hM
    refine gg 2 rfl (Rn.q rfl (V.ldBA [_, _] Tryz.isAgg26 Tryz.sizeOf26 rfl (hm21.get 2 rfl) rfl rfl) (Rn.st rfl rfl Tryz.sizeOf26 rfl rfl rfl rfl (by first | exact ones rfl | (simp [Value.oneCell']; done)) (hm21.get 2 rfl) (by first | exact Nat.le_of_ble_eq_true rfl | (simp; done)) ?_))
    intro w22 m22 x22
    have hm23 := (hm21.st 2 rfl x22 m22).nf [_, _, boxR _ _ [_, _]] rfl
    refine gg 1 rfl ?_
    refine Rn.retG1 Tryz.func68 rfl (rvC rfl Tryz.isAgg26 Tryz.sizeOf26 (hm23.get 2 rfl) rfl) ?_
    obtain rfl := someE hM
    exact ⟨A19, c19, F17, rfl, hm23.pick [1, 0] rfl (by decide)⟩
   intro hk3
   clear hj3
   refine gg 1 rfl ?_
   refine Rn.loopF (G := Int × T_point_reader × T_api_Side × (Nat → Prop) × Option Addr × Nat) (fun g => [(0, .pointer (some ⟨b0, 0, none⟩)), (2, .pointer (some ⟨b2, 0, none⟩)), (3, .int .i64 (y9)), (4, .int .i64 ((g.1)))]) (fun g w' => Hp Z0 (LS [T_point_reader.obj F0 b0 x0]) w w' [T_point_reader.obj (g.2.2.2.1) b0 (g.2.1), ownR 23 (g.2.2.2.2.1) (g.2.2.2.2.2) w64R (g.2.2.1).Counts, boxR b2 26 [.int .i64 ((g.2.2.1).Offset), .slice (g.2.2.2.2.1) ((g.2.2.1).Counts).length (g.2.2.2.2.2)]]) (fun n g => m_point_reader_side_L1 y9 j3 n g.1 g.2.1 g.2.2.1) fuel (0, y12, y13, F12, A14, c14) (Sub.cons rfl (Sub.cons rfl (Sub.cons rfl (Sub.cons rfl (Sub.nil _))))) (hm16.pick [0, 1, 2] rfl (by decide)) hM (fun _ => rfl) ?_
   clear hM
   rintro m29 ⟨y24, y25, y26, F25, A27, c27⟩ w29 hm29 hM hn29
   replace hM : m_point_reader_side_L1 y9 j3 (m29 + 1) y24 y25 y26 = some r := hM
   rw [m_point_reader_side_L1] at hM
   refine gg 7 rfl ?_
   obtain ⟨j4, hj4, hM⟩ := jnE hM
   refine Rn.joinR (r := r) (G := Bool × (Nat → Prop)) [10, 11, 12, 13, 14, 15, 16, 17] (fun g => [(0, .pointer (some ⟨b0, 0, none⟩)), (2, .pointer (some ⟨b2, 0, none⟩)), (3, .int .i64 (y9)), (4, .int .i64 (y24)), (29, .bool ((g.1)))]) (fun g w' => Hp Z0 (LS [T_point_reader.obj F0 b0 x0]) w w' [T_point_reader.obj (g.2) b0 y25, ownR 23 A27 c27 w64R y26.Counts, boxR b2 26 [.int .i64 (y26.Offset), .slice A27 (y26.Counts).length c27]]) (fun g => j4 g.1) ?_ ?_
   ·subst hj4
    clear hM
    rintro ⟨y33, F32⟩ w34 hm34 hM
    try dsimp only at hM
    refine gg 1 rfl ?_
    obtain ⟨j5, hj5, hM⟩ := jnE hM
    refine Rn.joinR (r := r) (G := Bool × (Nat → Prop)) [] (fun g => [(0, .pointer (some ⟨b0, 0, none⟩)), (2, .pointer (some ⟨b2, 0, none⟩)), (3, .int .i64 (y9)), (4, .int .i64 (y24)), (37, .bool ((g.1)))]) (fun g w' => Hp Z0 (LS [T_point_reader.obj F0 b0 x0]) w w' [T_point_reader.obj (g.2) b0 y25, ownR 23 A27 c27 w64R y26.Counts, boxR b2 26 [.int .i64 (y26.Offset), .slice A27 (y26.Counts).length c27]]) (fun g => j5 g.1) ?_ ?_
    ·subst hj5
     clear hM
     rintro ⟨y36, F35⟩ w37 hm37 hM
     try dsimp only at hM
     refine gg 1 rfl ?_
     refine Rn.condS rfl (fun h38 => ?_) (fun h38 => ?_)
     ·replace hM := iteT h38 hM
      refine gg 3 rfl ?_
      obtain ⟨j6, hj6, hM⟩ := jnE hM
      refine Rn.joinG (r := r) (G := T_point_reader × T_api_Side × (Nat → Prop) × Option Addr × Nat) (fun g => [(0, .pointer (some ⟨b0, 0, none⟩)), (2, .pointer (some ⟨b2, 0, none⟩)), (3, .int .i64 (y9)), (4, .int .i64 (y24))]) (fun g w' => Hp Z0 (LS [T_point_reader.obj F0 b0 x0]) w w' [T_point_reader.obj (g.2.2.1) b0 (g.1), ownR 23 (g.2.2.2.1) (g.2.2.2.2) w64R (g.2.1).Counts, boxR b2 26 [.int .i64 ((g.2.1).Offset), .slice (g.2.2.2.1) ((g.2.1).Counts).length (g.2.2.2.2)]]) (fun g => j6 g.1 g.2.1) ?_ ?_
      ·subst hj6
       clear hM
       rintro ⟨y39, y40, F39, A41, c41⟩ w43 hm43 hM
       try dsimp only at hM
       refine gg 6 rfl ?_
       exact hn29 ((W64 (y24 + 1)), y39, y40, F39, A41, c41) _ _ (Sub.cons rfl (Sub.cons rfl (Sub.cons rfl (Sub.cons rfl (Sub.nil _))))) (hm43.pick [0, 1, 2] rfl (by decide)) hM
      intro hk6
      clear hj6
      obtain ⟨_, ⟨F45_0, b45_0, rfl⟩, hm45⟩ := hm37.unf 0 rfl
      replace hm45 := hm45.nf [_, _, _, _] rfl
      have hm47 := (hm45.cutF [2] [0, 1, 3] [] rfl (by decide) trivial).nf ([_] ++ [_, _, _]) rfl
      refine Rn.drawF rfl hm47 ?_
      intro w48 hmo48 hm48
      refine dd [0, 2, 3, 4] (by kernel_rfl) rfl rfl ?_
      refine RH.take 5 (by kernel_rfl) rfl rfl rfl rfl (fun w' hDr => V.ldB Tryz.isAgg65 rfl ((hmo48.awayK hDr).get 0 rfl) rfl) ?_
      obtain ⟨p49, e49, hM⟩ := bindE hM
      obtain ⟨z56, e56, hM⟩ := bindE hM
      refine RH.both 1 6 (by kernel_rfl) ?_ ?_
      ·refine RB.here fun hS1 => RB.one 1 rfl rfl rfl rfl (V.ldB Tryz.isAgg24 rfl (hm48.get 1 rfl) rfl) hS1 ?_
       have e62 := e49
       have hm63 := (hm48.cut [0, 1] [2] rfl (by decide)).nf ([_, _] ++ [_]) rfl
       refine RH.cl ck63 6 (by kernel_rfl) rfl rfl rfl rfl (m_pack_Reader_Num_sim e62 hm63.lend :) ?_
       rintro _ w62 ⟨F62_p0, rfl, hq62⟩
       have hm65 := hm63.callAZ hq62
       refine ⟨_, rfl, hm65.fr, ?_⟩
       refine RH.bslS 7 (by kernel_rfl) rfl rfl rfl Tryz.underlying24 el23 rfl rfl rfl rfl (by first | exact szs rfl | (simp [Value.cells]; done)) (by decide) ?_
       intro b66 w66 hb66 m66 e66
       have hm67 := hm65.addLit (rep := w64R) (xs := ([p49.1] : List UInt64)) (vss := [[.int .u64 (((p49.1).toNat : Nat) : Int)]]) hb66 e66 m66 rfl rfl rfl ((rels_cons (fun _ _ => ⟨rfl, trivial⟩) rels0))
       refine ⟨hm67.fr, ?_⟩
       have e69 := e56
       refine RH.appH 8 (by kernel_rfl) hm67 0 rfl e69 rfl rfl rfl Tryz.underlying24 el23 rfl rfl rfl rfl (hm67.srcO 3 rfl) ?_
       intro A69 c69 w69 hm69
       refine ⟨hm69.fr, ?_⟩
       refine dd [9] (by kernel_rfl) rfl rfl ?_
       refine RH.st 10 (by kernel_rfl) rfl rfl Tryz.sizeOf24 rfl rfl rfl rfl (by first | exact ones rfl | (simp [Value.oneCell']; done)) (hm69.get 1 rfl) (by first | exact Nat.le_of_ble_eq_true rfl | (simp; done)) ?_
       intro w71 m71 x71
       have hm72 := (hm69.st 1 rfl x71 m71).nf [_, boxR _ _ [_, _], _, _] rfl
       refine ⟨hm72.fr, ?_⟩
       refine RH.doneP (by kernel_rfl) ?_
       have hm73 := hmo48.callAZ hm72
       have hm74 := (hm73.pick [0, 1, 2, 3, 4] rfl (by decide)).nf [_, _, _, _, _] rfl
       have hm76 := (hm74.cut [1, 2, 4] [0, 3] rfl (by decide)).nf ([_, _, _] ++ [_, _]) rfl
       obtain ⟨F75, hm75⟩ := hm76.fold (T_point_reader.sh b0 ({ Reader := p49.2, e := y25.e } : T_point_reader)) ⟨F62_p0, b45_0, rfl⟩
       exact hk6 (({ Reader := p49.2, e := y25.e } : T_point_reader), ({ Offset := y26.Offset, Counts := z56 } : T_api_Side), F75, A69, c69) _ _ (Sub.cons rfl (Sub.cons rfl (Sub.cons rfl (Sub.cons rfl (Sub.nil _))))) (hm75.pick [3, 0, 1] rfl (by decide)) hM
      ·have e77 := e49
       have hm78 := (hm48.cut [0, 1] [2] rfl (by decide)).nf ([_, _] ++ [_]) rfl
       refine RB.cl ck63 6 rfl rfl rfl rfl (m_pack_Reader_Num_sim e77 hm78.lend :) ?_
       rintro _ w77 ⟨F77_p0, rfl, hq77⟩
       have hm80 := hm78.callAZ hq77
       refine ⟨_, rfl, hm80.fr, ?_⟩
       refine RH.both 1 7 (by kernel_rfl) ?_ ?_
       ·refine RB.here fun hS1 => RB.one 1 rfl rfl rfl rfl (V.ldB Tryz.isAgg24 rfl (hm80.get 1 rfl) rfl) hS1 ?_
        refine RH.bslS 7 (by kernel_rfl) rfl rfl rfl Tryz.underlying24 el23 rfl rfl rfl rfl (by first | exact szs rfl | (simp [Value.cells]; done)) (by decide) ?_
        intro b81 w81 hb81 m81 e81
        have hm82 := hm80.addLit (rep := w64R) (xs := ([p49.1] : List UInt64)) (vss := [[.int .u64 (((p49.1).toNat : Nat) : Int)]]) hb81 e81 m81 rfl rfl rfl ((rels_cons (fun _ _ => ⟨rfl, trivial⟩) rels0))
        refine ⟨hm82.fr, ?_⟩
        have e84 := e56
        refine RH.appH 8 (by kernel_rfl) hm82 0 rfl e84 rfl rfl rfl Tryz.underlying24 el23 rfl rfl rfl rfl (hm82.srcO 3 rfl) ?_
        intro A84 c84 w84 hm84
        refine ⟨hm84.fr, ?_⟩
        refine dd [9] (by kernel_rfl) rfl rfl ?_
        refine RH.st 10 (by kernel_rfl) rfl rfl Tryz.sizeOf24 rfl rfl rfl rfl (by first | exact ones rfl | (simp [Value.oneCell']; done)) (hm84.get 1 rfl) (by first | exact Nat.le_of_ble_eq_true rfl | (simp; done)) ?_
        intro w86 m86 x86
        have hm87 := (hm84.st 1 rfl x86 m86).nf [_, boxR _ _ [_, _], _, _] rfl
        refine ⟨hm87.fr, ?_⟩
        refine RH.doneP (by kernel_rfl) ?_
        have hm88 := hmo48.callAZ hm87
        have hm89 := (hm88.pick [0, 1, 2, 3, 4] rfl (by decide)).nf [_, _, _, _, _] rfl
        have hm91 := (hm89.cut [1, 2, 4] [0, 3] rfl (by decide)).nf ([_, _, _] ++ [_, _]) rfl
        obtain ⟨F90, hm90⟩ := hm91.fold (T_point_reader.sh b0 ({ Reader := p49.2, e := y25.e } : T_point_reader)) ⟨F77_p0, b45_0, rfl⟩
        exact hk6 (({ Reader := p49.2, e := y25.e } : T_point_reader), ({ Offset := y26.Offset, Counts := z56 } : T_api_Side), F90, A84, c84) _ _ (Sub.cons rfl (Sub.cons rfl (Sub.cons rfl (Sub.cons rfl (Sub.nil _))))) (hm90.pick [3, 0, 1] rfl (by decide)) hM
       ·refine RB.bslS 7 rfl rfl rfl Tryz.underlying24 el23 rfl rfl rfl rfl (by first | exact szs rfl | (simp [Value.cells]; done)) (by decide) ?_
        intro b92 w92 hb92 m92 e92
        have hm93 := hm80.addLit (rep := w64R) (xs := ([p49.1] : List UInt64)) (vss := [[.int .u64 (((p49.1).toNat : Nat) : Int)]]) hb92 e92 m92 rfl rfl rfl ((rels_cons (fun _ _ => ⟨rfl, trivial⟩) rels0))
        refine ⟨hm93.fr, ?_⟩
        refine RH.here fun hS1 => RH.one 1 (by kernel_rfl) rfl rfl rfl rfl (V.ldB Tryz.isAgg24 rfl (hm93.get 1 rfl) rfl) hS1 ?_
        have e95 := e56
        refine RH.appH 8 (by kernel_rfl) hm93 0 rfl e95 rfl rfl rfl Tryz.underlying24 el23 rfl rfl rfl rfl (hm93.srcO 3 rfl) ?_
        intro A95 c95 w95 hm95
        refine ⟨hm95.fr, ?_⟩
        refine dd [9] (by kernel_rfl) rfl rfl ?_
        refine RH.st 10 (by kernel_rfl) rfl rfl Tryz.sizeOf24 rfl rfl rfl rfl (by first | exact ones rfl | (simp [Value.oneCell']; done)) (hm95.get 1 rfl) (by first | exact Nat.le_of_ble_eq_true rfl | (simp; done)) ?_
        intro w97 m97 x97
        have hm98 := (hm95.st 1 rfl x97 m97).nf [_, boxR _ _ [_, _], _, _] rfl
        refine ⟨hm98.fr, ?_⟩
        refine RH.doneP (by kernel_rfl) ?_
        have hm99 := hmo48.callAZ hm98
        have hm100 := (hm99.pick [0, 1, 2, 3, 4] rfl (by decide)).nf [_, _, _, _, _] rfl
        have hm102 := (hm100.cut [1, 2, 4] [0, 3] rfl (by decide)).nf ([_, _, _] ++ [_, _]) rfl
        obtain ⟨F101, hm101⟩ := hm102.fold (T_point_reader.sh b0 ({ Reader := p49.2, e := y25.e } : T_point_reader)) ⟨F77_p0, b45_0, rfl⟩
        exact hk6 (({ Reader := p49.2, e := y25.e } : T_point_reader), ({ Offset := y26.Offset, Counts := z56 } : T_api_Side), F101, A95, c95) _ _ (Sub.cons rfl (Sub.cons rfl (Sub.cons rfl (Sub.cons rfl (Sub.nil _))))) (hm101.pick [3, 0, 1] rfl (by decide)) hM
     ·replace hM := iteFB hM h38
      refine gg 1 rfl ?_
      exact hk3 (y25, y26, F35, A27, c27) _ _ (Sub.cons rfl (Sub.nil _)) (hm37.pick [0, 1, 2] rfl (by decide)) hM
    intro hk5
    clear hj5
    refine Rn.part (t := 30) rfl (fun h103 => ?_) (fun h103 => ?_)
    ·replace hM := iteT h103 hM
     refine gg 3 rfl ?_
     obtain ⟨_, ⟨F104_0, b104_0, rfl⟩, hm104⟩ := hm34.unf 0 rfl
     replace hm104 := hm104.nf [_, _, _, _] rfl
     refine Rn.q rfl (V.ldB Tryz.isAgg65 rfl (hm104.get 2 rfl) rfl) ?_
     obtain ⟨p106, e106, hM⟩ := bindE hM
     refine Rn.cl ck87 rfl rfl rfl rfl (m_pack_Reader_Err_sim (Z0 := All) e106 (fz_all (hm104.get 3 rfl)) :) ?_
     rintro _ w106 ⟨rfl, hq106⟩
     refine ⟨_, rfl, ?_⟩
     have hm107 := hm104.call0 hq106
     refine gg 2 rfl ?_
     have hm109 := (hm107.cut [0, 1] [2, 3] rfl (by decide)).nf ([_, _] ++ [_, _]) rfl
     obtain ⟨F108, hm108⟩ := hm109.fold (T_point_reader.sh b0 y25) ⟨F104_0, b104_0, rfl⟩
     exact hk5 ((decide (p106 = 0)), F108) _ _ (Sub.cons rfl (Sub.cons rfl (Sub.cons rfl (Sub.cons rfl (Sub.cons rfl (Sub.nil _)))))) (hm108.pick [2, 0, 1] rfl (by decide)) hM
    ·replace hM := iteFB hM h103
     refine gg 7 rfl ?_
     exact hk5 (false, F32) _ _ (Sub.cons rfl (Sub.cons rfl (Sub.cons rfl (Sub.cons rfl (Sub.cons rfl (Sub.nil _)))))) (hm34.pick [0, 1, 2] rfl (by decide)) hM
   intro hk4
   clear hj4
   refine Rn.partD (t := 23) rfl (fun h110 => ?_) (fun h110 => ?_)
   ·replace hM := iteT h110 hM
    refine gg 3 rfl ?_
    obtain ⟨_, ⟨F111_0, b111_0, rfl⟩, hm111⟩ := hm29.unf 0 rfl
    replace hm111 := hm111.nf [_, _, _, _] rfl
    refine Rn.q rfl (V.ldB Tryz.isAgg34 rfl (hm111.get 2 rfl) rfl) (gg 2 rfl ?_)
    have hm114 := (hm111.cut [0, 1] [2, 3] rfl (by decide)).nf ([_, _] ++ [_, _]) rfl
    obtain ⟨F113, hm113⟩ := hm114.fold (T_point_reader.sh b0 y25) ⟨F111_0, b111_0, rfl⟩
    exact hk4 ((decide (y25.e = 0)), F113) _ _ (Sub.cons rfl (Sub.cons rfl (Sub.cons rfl (Sub.cons rfl (Sub.cons rfl (Sub.nil _)))))) (hm113.pick [2, 0, 1] rfl (by decide)) hM
   ·replace hM := iteF h110 hM
    refine gg 6 rfl ?_
    exact hk4 (false, F25) _ _ (Sub.cons rfl (Sub.cons rfl (Sub.cons rfl (Sub.cons rfl (Sub.cons rfl (Sub.nil _)))))) (hm29.pick [0, 1, 2] rfl (by decide)) hM
  intro hk2
  clear hj2
  refine Rn.condD rfl (fun h115 => ?_) (fun h115 => ?_)
  ·replace hM := iteT h115 hM
   refine gg 2 rfl ?_
   obtain ⟨p116, e116, hM⟩ := bindE hM
   have hm117 := (hm11.cut [0] [1] rfl (by decide)).nf ([_] ++ [_]) rfl
   refine Rn.cl ck67 rfl rfl rfl rfl (m_point_reader_signed_sim e116 hm117.lend :) ?_
   rintro _ w116 ⟨F116_p0, rfl, hq116⟩
   refine ⟨_, rfl, ?_⟩
   have hm119 := hm117.callAZ hq116
   refine gg 1 rfl (Rn.st rfl rfl Tryz.sizeOf3 rfl rfl rfl rfl (by first | exact ones rfl | (simp [Value.oneCell']; done)) (hm119.get 0 rfl) (by first | exact Nat.le_of_ble_eq_true rfl | (simp; done)) ?_)
   intro w120 m120 x120
   have hm121 := (hm119.st 0 rfl x120 m120).nf [boxR _ _ [_, _], _] rfl
   refine gg 1 rfl ?_
   have hm122 := hm121.addNil 23 w64R
   exact hk2 (p116.2, ({ Offset := p116.1, Counts := ([] : List UInt64) } : T_api_Side), F116_p0, none, 0) _ _ (Sub.cons rfl (Sub.cons rfl (Sub.cons rfl (Sub.nil _)))) (hm122.pick [1, 2, 0] rfl (by decide)) hM
  ·replace hM := iteF h115 hM
   refine gg 1 rfl ?_
   have hm124 := hm11.addNil 23 w64R
   exact hk2 (y10, ({ Offset := 0, Counts := ([] : List UInt64) } : T_api_Side), F10, none, 0) _ _ (Sub.cons rfl (Sub.cons rfl (Sub.cons rfl (Sub.nil _)))) (hm124.pick [1, 2, 0] rfl (by decide)) hM
 intro hk1
 clear hj1
 refine Rn.condD rfl (fun h126 => ?_) (fun h126 => ?_)
 ·replace hM := iteT h126 hM
  refine gg 4 rfl ?_
  obtain ⟨_, ⟨F127_0, b127_0, rfl⟩, hm127⟩ := hm7.unf 1 rfl
  replace hm127 := hm127.nf [_, _, _] rfl
  refine Rn.q rfl (V.ldB Tryz.isAgg65 rfl (hm127.get 1 rfl) rfl) ?_
  obtain ⟨p129, e129, hM⟩ := bindE hM
  have hm130 := (hm127.cut [0, 1] [2] rfl (by decide)).nf ([_, _] ++ [_]) rfl
  refine Rn.cl ck37 rfl rfl rfl rfl (m_pack_Reader_Count_sim e129 hm130.lend :) ?_
  rintro _ w129 ⟨F129_p0, rfl, hq129⟩
  refine ⟨_, rfl, ?_⟩
  have hm132 := hm130.callAZ hq129
  refine gg 2 rfl ?_
  have hm134 := (hm132.cut [0] [1, 2] rfl (by decide)).nf ([_] ++ [_, _]) rfl
  obtain ⟨F133, hm133⟩ := hm134.fold (T_point_reader.sh b0 ({ Reader := p129.2, e := x0.e } : T_point_reader)) ⟨F129_p0, b127_0, rfl⟩
  exact hk1 (p129.1, ({ Reader := p129.2, e := x0.e } : T_point_reader), F133) _ _ (Sub.cons rfl (Sub.cons rfl (Sub.cons rfl (Sub.nil _)))) (hm133.pick [0, 1] rfl (by decide)) hM
 ·replace hM := iteF h126 hM
  refine gg 1 rfl ?_
  exact hk1 (0, x0, F7) _ _ (Sub.cons rfl (Sub.cons rfl (Sub.cons rfl (Sub.nil _)))) (hm7.pick [0, 1] rfl (by decide)) hM

theorem m_point_reader_value_sim {Z0 : Nat → Prop} {w : World} {F0 : Nat → Prop} {b0 : Nat} {x0 : T_point_reader} {F1 : Nat → Prop} {b1 : Nat} {x1 : T_api_Point} {r : (T_point_reader × T_api_Point)} (hM : m_point_reader_value x0 x1 = some r) (hL : Lent Z0 w [T_point_reader.obj F0 b0 x0, T_api_Point.obj F1 b1 x1]) :
    Calls Tryz.prog 38 #[.pointer (some ⟨b0, 0, none⟩), .pointer (some ⟨b1, 0, none⟩)] w fun x w' => ∃ F_p0 F_p1, x = .returned (.tuple #[]) ∧ Hp Z0 (LS [T_point_reader.obj F0 b0 x0, T_api_Point.obj F1 b1 x1]) w w' [T_point_reader.obj F_p0 b0 r.1, T_api_Point.obj F_p1 b1 r.2] := by
 have hm0 := hL.start
 refine Rn.enter Tryz.func38 rfl rfl (Nat.le_of_ble_eq_true rfl) ?_
 refine gg 5 rfl ?_
 obtain ⟨_, ⟨A3_0, c3_0, A3_1, c3_1, A3_2, c3_2, rfl⟩, hm3⟩ := hm0.unf 1 rfl
 replace hm3 := hm3.nf [_, _, _, _, _] rfl
 refine Rn.q rfl (V.ldB Tryz.isAgg3 rfl (hm3.get 1 rfl) rfl) (gg 7 rfl ?_)
 refine Rn.condD rfl (fun h7 => ?_) (fun h7 => ?_)
 ·replace hM := iteT h7 hM
  refine gg 5 rfl ?_
  obtain ⟨_, ⟨F8_0, b8_0, rfl⟩, hm8⟩ := hm3.unf 0 rfl
  replace hm8 := hm8.nf [_, _, _, _, _, _] rfl
  refine Rn.q rfl (V.ldB Tryz.isAgg65 rfl (hm8.get 4 rfl) rfl) ?_
  obtain ⟨p10, e10, hM⟩ := bindE hM
  have hm11 := (hm8.cut [0, 1, 2, 3, 4] [5] rfl (by decide)).nf ([_, _, _, _, _] ++ [_]) rfl
  refine Rn.cl ck65 rfl rfl rfl rfl (m_pack_Reader_Int_sim e10 hm11.lend :) ?_
  rintro _ w10 ⟨F10_p0, rfl, hq10⟩
  refine ⟨_, rfl, ?_⟩
  have hm13 := hm11.callAZ hq10
  refine gg 2 rfl (Rn.st rfl rfl Tryz.sizeOf3 rfl rfl rfl rfl (by first | exact ones rfl | (simp [Value.oneCell']; done)) (hm13.get 0 rfl) (by first | exact Nat.le_of_ble_eq_true rfl | (simp; done)) ?_)
  intro w14 m14 x14
  have hm15 := (hm13.st 0 rfl x14 m14).nf [boxR _ _ [_, _, _, _, _, _, _, _, _, _, _, _, _, _, _, _, _], _, _, _, _, _] rfl
  refine gg 2 rfl ?_
  have hm17 := (hm15.cut [0, 1, 2, 3] [4, 5] rfl (by decide)).nf ([_, _, _, _] ++ [_, _]) rfl
  obtain ⟨F16, hm16⟩ := hm17.fold (T_point_reader.sh b0 ({ Reader := p10.2, e := x0.e } : T_point_reader)) ⟨F10_p0, b8_0, rfl⟩
  have hm19 := (hm16.cut [4] [0, 1, 2, 3] rfl (by decide)).nf ([_] ++ [_, _, _, _]) rfl
  obtain ⟨F18, hm18⟩ := hm19.fold (T_api_Point.sh b1 ({ Name := x1.Name, Attrs := x1.Attrs, Kind := x1.Kind, Temp := x1.Temp, Mono := x1.Mono, Start := x1.Start, Time := x1.Time, Int_ := p10.1, Re := x1.Re, Im := x1.Im, Hist := x1.Hist, Flags := x1.Flags } : T_api_Point)) ⟨A3_0, c3_0, A3_1, c3_1, A3_2, c3_2, rfl⟩
  refine Rn.end0 Tryz.func38 rfl ?_
  obtain rfl := someE hM
  exact ⟨F16, F18, rfl, hm18.pick [0, 1] rfl (by decide)⟩
 ·replace hM := iteF h7 hM
  refine gg 6 rfl ?_
  have hm21 := (hm3.cut [0] [1, 2, 3, 4] rfl (by decide)).nf ([_] ++ [_, _, _, _]) rfl
  obtain ⟨F20, hm20⟩ := hm21.fold (T_api_Point.sh b1 x1) ⟨A3_0, c3_0, A3_1, c3_1, A3_2, c3_2, rfl⟩
  obtain ⟨j1, hj1, hM⟩ := jnE hM
  refine Rn.joinG (r := r) (G := Bool × (Nat → Prop) × (Nat → Prop)) (fun g => [(0, .pointer (some ⟨b0, 0, none⟩)), (1, .pointer (some ⟨b1, 0, none⟩)), (7, .int .i64 (x1.Kind)), (18, .bool ((g.1)))]) (fun g w' => Hp Z0 (LS [T_point_reader.obj F0 b0 x0, T_api_Point.obj F1 b1 x1]) w w' [T_point_reader.obj (g.2.1) b0 x0, T_api_Point.obj (g.2.2) b1 x1]) (fun g => j1 g.1) ?_ ?_
  ·subst hj1
   clear hM
   rintro ⟨y24, F22, F23⟩ w25 hm25 hM
   try dsimp only at hM
   refine Rn.condS rfl (fun h26 => ?_) (fun h26 => ?_)
   ·replace hM := iteT h26 hM
    refine gg 5 rfl ?_
    obtain ⟨_, ⟨F27_0, b27_0, rfl⟩, hm27⟩ := hm25.unf 0 rfl
    replace hm27 := hm27.nf [_, _, _] rfl
    refine Rn.q rfl (V.ldB Tryz.isAgg65 rfl (hm27.get 1 rfl) rfl) ?_
    obtain ⟨p29, e29, hM⟩ := bindE hM
    have hm30 := (hm27.cut [0, 1] [2] rfl (by decide)).nf ([_, _] ++ [_]) rfl
    refine Rn.cl ck66 rfl rfl rfl rfl (m_pack_Reader_Fix_sim e29 hm30.lend :) ?_
    rintro _ w29 ⟨F29_p0, rfl, hq29⟩
    refine ⟨_, rfl, ?_⟩
    have hm32 := hm30.callAZ hq29
    refine gg 2 rfl ?_
    obtain ⟨_, ⟨A33_0, c33_0, A33_1, c33_1, A33_2, c33_2, rfl⟩, hm33⟩ := hm32.unf 0 rfl
    replace hm33 := hm33.nf [_, _, _, _, _, _] rfl
    refine Rn.st rfl rfl Tryz.sizeOf23 rfl rfl rfl rfl (by first | exact ones rfl | (simp [Value.oneCell']; done)) (hm33.get 2 rfl) (by first | exact Nat.le_of_ble_eq_true rfl | (simp; done)) ?_
    intro w37 m37 x37
    have hm38 := (hm33.st 2 rfl x37 m37).nf [_, _, boxR _ _ [_, _, _, _, _, _, _, _, _, _, _, _, _, _, _, _, _], _, _, _] rfl
    refine gg 2 rfl ?_
    have hm40 := (hm38.cut [2, 3, 4, 5] [0, 1] rfl (by decide)).nf ([_, _, _, _] ++ [_, _]) rfl
    obtain ⟨F39, hm39⟩ := hm40.fold (T_point_reader.sh b0 ({ Reader := p29.2, e := x0.e } : T_point_reader)) ⟨F29_p0, b27_0, rfl⟩
    have hm42 := (hm39.cut [4] [0, 1, 2, 3] rfl (by decide)).nf ([_] ++ [_, _, _, _]) rfl
    obtain ⟨F41, hm41⟩ := hm42.fold (T_api_Point.sh b1 ({ Name := x1.Name, Attrs := x1.Attrs, Kind := x1.Kind, Temp := x1.Temp, Mono := x1.Mono, Start := x1.Start, Time := x1.Time, Int_ := x1.Int_, Re := p29.1, Im := x1.Im, Hist := x1.Hist, Flags := x1.Flags } : T_api_Point)) ⟨A33_0, c33_0, A33_1, c33_1, A33_2, c33_2, rfl⟩
    refine Rn.end0 Tryz.func38 rfl ?_
    obtain rfl := someE hM
    exact ⟨F39, F41, rfl, hm41.pick [0, 1] rfl (by decide)⟩
   ·replace hM := iteFB hM h26
    refine gg 5 rfl ?_
    refine Rn.condD rfl (fun h43 => ?_) (fun h43 => ?_)
    ·replace hM := iteT h43 hM
     obtain ⟨_, ⟨F45_0, b45_0, rfl⟩, hm45⟩ := hm25.unf 0 rfl
     replace hm45 := hm45.nf [_, _, _] rfl
     have hm47 := (hm45.cutF [1] [0, 2] [] rfl (by decide) trivial).nf ([_] ++ [_, _]) rfl
     refine Rn.drawF rfl hm47 ?_
     intro w48 hmo48 hm48
     refine dd [0, 1, 2, 3, 4] (by kernel_rfl) rfl rfl ?_
     refine RH.take 5 (by kernel_rfl) rfl rfl rfl rfl (fun w' hDr => V.ldB Tryz.isAgg65 rfl ((hmo48.awayK hDr).get 0 rfl) rfl) ?_
     refine dd [7, 8, 9] (by kernel_rfl) rfl rfl ?_
     refine RH.take 10 (by kernel_rfl) rfl rfl rfl rfl (fun w' hDr => V.ldB Tryz.isAgg65 rfl ((hmo48.awayK hDr).get 0 rfl) rfl) ?_
     obtain ⟨p49, e49, hM⟩ := bindE hM
     have hm50 := (hm48.cut [0] [1] rfl (by decide)).nf ([_] ++ [_]) rfl
     refine RH.cl ck66 6 (by kernel_rfl) rfl rfl rfl rfl (m_pack_Reader_Fix_sim e49 hm50.lend :) ?_
     rintro _ w49 ⟨F49_p0, rfl, hq49⟩
     have hm52 := hm50.callAZ hq49
     refine ⟨_, rfl, hm52.fr, ?_⟩
     obtain ⟨p53, e53, hM⟩ := bindE hM
     have hm54 := (hm52.cut [0] [1] rfl (by decide)).nf ([_] ++ [_]) rfl
     refine RH.cl ck66 11 (by kernel_rfl) rfl rfl rfl rfl (m_pack_Reader_Fix_sim e53 hm54.lend :) ?_
     rintro _ w53 ⟨F53_p0, rfl, hq53⟩
     have hm56 := hm54.callAZ hq53
     refine ⟨_, rfl, hm56.fr, ?_⟩
     refine dd [12, 13] (by kernel_rfl) rfl rfl ?_
     obtain ⟨_, ⟨A57_0, c57_0, A57_1, c57_1, A57_2, c57_2, rfl⟩, hm57⟩ := hm56.unf 0 rfl
     replace hm57 := hm57.nf [_, _, _, _, _] rfl
     refine RH.st 14 (by kernel_rfl) rfl rfl Tryz.sizeOf23 rfl rfl rfl rfl (by first | exact ones rfl | (simp [Value.oneCell']; done)) (hm57.get 1 rfl) (by first | exact Nat.le_of_ble_eq_true rfl | (simp; done)) ?_
     intro w61 m61 x61
     have hm62 := (hm57.st 1 rfl x61 m61).nf [_, boxR _ _ [_, _, _, _, _, _, _, _, _, _, _, _, _, _, _, _, _], _, _, _] rfl
     refine ⟨hm62.fr, ?_⟩
     refine dd [15, 16] (by kernel_rfl) rfl rfl ?_
     refine RH.st 17 (by kernel_rfl) rfl rfl Tryz.sizeOf23 rfl rfl rfl rfl (by first | exact ones rfl | (simp [Value.oneCell']; done)) (hm62.get 1 rfl) (by first | exact Nat.le_of_ble_eq_true rfl | (simp; done)) ?_
     intro w63 m63 x63
     have hm64 := (hm62.st 1 rfl x63 m63).nf [_, boxR _ _ [_, _, _, _, _, _, _, _, _, _, _, _, _, _, _, _, _], _, _, _] rfl
     refine ⟨hm64.fr, ?_⟩
     refine RH.doneP (by kernel_rfl) ?_
     have hm65 := hmo48.callAZ hm64
     have hm66 := (hm65.pick [0, 1, 2, 3, 4, 5] rfl (by decide)).nf [_, _, _, _, _, _] rfl
     refine gg 1 rfl ?_
     have hm68 := (hm66.cut [2, 3, 4, 5] [0, 1] rfl (by decide)).nf ([_, _, _, _] ++ [_, _]) rfl
     obtain ⟨F67, hm67⟩ := hm68.fold (T_point_reader.sh b0 ({ Reader := p53.2, e := x0.e } : T_point_reader)) ⟨F53_p0, b45_0, rfl⟩
     have hm70 := (hm67.cut [4] [0, 1, 2, 3] rfl (by decide)).nf ([_] ++ [_, _, _, _]) rfl
     obtain ⟨F69, hm69⟩ := hm70.fold (T_api_Point.sh b1 ({ Name := x1.Name, Attrs := x1.Attrs, Kind := x1.Kind, Temp := x1.Temp, Mono := x1.Mono, Start := x1.Start, Time := x1.Time, Int_ := x1.Int_, Re := p49.1, Im := p53.1, Hist := x1.Hist, Flags := x1.Flags } : T_api_Point)) ⟨A57_0, c57_0, A57_1, c57_1, A57_2, c57_2, rfl⟩
     refine Rn.end0 Tryz.func38 rfl ?_
     obtain rfl := someE hM
     exact ⟨F67, F69, rfl, hm69.pick [0, 1] rfl (by decide)⟩
    ·replace hM := iteF h43 hM
     refine gg 5 rfl ?_
     refine Rn.condD rfl (fun h71 => ?_) (fun h71 => ?_)
     ·replace hM := iteT h71 hM
      refine gg 4 rfl ?_
      obtain ⟨p72, e72, hM⟩ := bindE hM
      have hm73 := (hm25.cut [1] [0] rfl (by decide)).nf ([_] ++ [_]) rfl
      refine Rn.cl ck67 rfl rfl rfl rfl (m_point_reader_signed_sim e72 hm73.lend :) ?_
      rintro _ w72 ⟨F72_p0, rfl, hq72⟩
      refine ⟨_, rfl, ?_⟩
      have hm75 := hm73.callAZ hq72
      refine gg 3 rfl ?_
      obtain ⟨_, ⟨A76_0, c76_0, A76_1, c76_1, A76_2, c76_2, rfl⟩, hm76⟩ := hm75.unf 0 rfl
      replace hm76 := hm76.nf [_, _, _, _, _] rfl
      refine Rn.st rfl rfl Tryz.sizeOf3 rfl rfl rfl rfl (by first | exact ones rfl | (simp [Value.oneCell']; done)) (hm76.get 1 rfl) (by first | exact Nat.le_of_ble_eq_true rfl | (simp; done)) ?_
      intro w80 m80 x80
      have hm81 := (hm76.st 1 rfl x80 m80).nf [_, boxR _ _ [_, _, _, _, _, _, _, _, _, _, _, _, _, _, _, _, _], _, _, _] rfl
      refine gg 7 rfl ?_
      obtain ⟨_, ⟨F82_0, b82_0, rfl⟩, hm82⟩ := hm81.unf 0 rfl
      replace hm82 := hm82.nf [_, _, _, _, _, _] rfl
      refine Rn.q rfl (V.ldB Tryz.isAgg34 rfl (hm82.get 4 rfl) rfl) (gg 2 rfl ?_)
      have hm85 := (hm82.cut [4, 5] [0, 1, 2, 3] rfl (by decide)).nf ([_, _] ++ [_, _, _, _]) rfl
      obtain ⟨F84, hm84⟩ := hm85.fold (T_api_Point.sh b1 ({ Name := x1.Name, Attrs := x1.Attrs, Kind := x1.Kind, Temp := x1.Temp, Mono := x1.Mono, Start := x1.Start, Time := x1.Time, Int_ := x1.Int_, Re := x1.Re, Im := x1.Im, Hist := ({ Scale := p72.1, Zero := x1.Hist.Zero, Pos := x1.Hist.Pos, Neg := x1.Hist.Neg } : T_api_Hist), Flags := x1.Flags } : T_api_Point)) ⟨A76_0, c76_0, A76_1, c76_1, A76_2, c76_2, rfl⟩
      have hm87 := (hm84.cut [2] [0, 1] rfl (by decide)).nf ([_] ++ [_, _]) rfl
      obtain ⟨F86, hm86⟩ := hm87.fold (T_point_reader.sh b0 p72.2) ⟨F82_0, b82_0, rfl⟩
      obtain ⟨j2, hj2, hM⟩ := jnE hM
      refine Rn.joinG (r := r) (G := T_api_Point × T_point_reader × (Nat → Prop) × (Nat → Prop)) (fun g => [(0, .pointer (some ⟨b0, 0, none⟩)), (1, .pointer (some ⟨b1, 0, none⟩))]) (fun g w' => Hp Z0 (LS [T_point_reader.obj F0 b0 x0, T_api_Point.obj F1 b1 x1]) w w' [T_api_Point.obj (g.2.2.1) b1 (g.1), T_point_reader.obj (g.2.2.2) b0 (g.2.1)]) (fun g => j2 g.1 g.2.1) ?_ ?_
      ·subst hj2
       clear hM
       rintro ⟨y88, y89, F88, F89⟩ w90 hm90 hM
       try dsimp only at hM
       refine gg 4 rfl ?_
       obtain ⟨p91, e91, hM⟩ := bindE hM
       have hm92 := (hm90.cut [0] [1] rfl (by decide)).nf ([_] ++ [_]) rfl
       refine Rn.cl ck68 rfl rfl rfl rfl (m_point_reader_side_sim e91 hm92.lend :) ?_
       rintro _ w91 ⟨A91_0_0, c91_0_0, F91_p0, rfl, hq91⟩
       refine ⟨_, rfl, ?_⟩
       have hm95 := hm92.callAZ hq91
       refine gg 3 rfl ?_
       obtain ⟨_, ⟨A96_0, c96_0, A96_1, c96_1, A96_2, c96_2, rfl⟩, hm96⟩ := hm95.unf 0 rfl
       replace hm96 := hm96.nf [_, _, _, _, _, _] rfl
       refine Rn.st rfl rfl Tryz.sizeOf26 rfl rfl rfl rfl (by first | exact ones rfl | (simp [Value.oneCell']; done)) (hm96.get 2 rfl) (by first | exact Nat.le_of_ble_eq_true rfl | (simp; done)) ?_
       intro w100 m100 x100
       have hm101 := (hm96.st 2 rfl x100 m100).nf [_, _, boxR _ _ [_, _, _, _, _, _, _, _, _, _, _, _, _, _, _, _, _], _, _, _] rfl
       refine gg 4 rfl ?_
       obtain ⟨p102, e102, hM⟩ := bindE hM
       have hm103 := (hm101.cut [0, 2, 3, 4, 5] [1] rfl (by decide)).nf ([_, _, _, _, _] ++ [_]) rfl
       refine Rn.cl ck68 rfl rfl rfl rfl (m_point_reader_side_sim e102 hm103.lend :) ?_
       rintro _ w102 ⟨A102_0_0, c102_0_0, F102_p0, rfl, hq102⟩
       refine ⟨_, rfl, ?_⟩
       have hm106 := hm103.callAZ hq102
       refine gg 3 rfl (Rn.st rfl rfl Tryz.sizeOf26 rfl rfl rfl rfl (by first | exact ones rfl | (simp [Value.oneCell']; done)) (hm106.get 1 rfl) (by first | exact Nat.le_of_ble_eq_true rfl | (simp; done)) ?_)
       intro w107 m107 x107
       have hm108 := (hm106.st 1 rfl x107 m107).nf [_, boxR _ _ [_, _, _, _, _, _, _, _, _, _, _, _, _, _, _, _, _], _, _, _, _, _] rfl
       refine gg 2 rfl ?_
       have hm110 := (hm108.cut [3, 4, 6] [1, 2, 0, 5] rfl (by decide)).nf ([_, _, _] ++ [_, _, _, _]) rfl
       obtain ⟨F109, hm109⟩ := hm110.fold (T_api_Point.sh b1 ({ Name := y88.Name, Attrs := y88.Attrs, Kind := y88.Kind, Temp := y88.Temp, Mono := y88.Mono, Start := y88.Start, Time := y88.Time, Int_ := y88.Int_, Re := y88.Re, Im := y88.Im, Hist := ({ Scale := y88.Hist.Scale, Zero := y88.Hist.Zero, Pos := p91.1, Neg := p102.1 } : T_api_Hist), Flags := y88.Flags } : T_api_Point)) ⟨A96_0, c96_0, A91_0_0, c91_0_0, A102_0_0, c102_0_0, rfl⟩
       refine Rn.end0 Tryz.func38 rfl ?_
       obtain rfl := someE hM
       exact ⟨F102_p0, F109, rfl, hm109.pick [2, 3] rfl (by decide)⟩
      intro hk2
      clear hj2
      refine Rn.condD rfl (fun h111 => ?_) (fun h111 => ?_)
      ·replace hM := iteT h111 hM
       refine gg 5 rfl ?_
       obtain ⟨_, ⟨F112_0, b112_0, rfl⟩, hm112⟩ := hm86.unf 1 rfl
       replace hm112 := hm112.nf [_, _, _] rfl
       refine Rn.q rfl (V.ldB Tryz.isAgg65 rfl (hm112.get 1 rfl) rfl) ?_
       obtain ⟨p114, e114, hM⟩ := bindE hM
       have hm115 := (hm112.cut [0, 1] [2] rfl (by decide)).nf ([_, _] ++ [_]) rfl
       refine Rn.cl ck63 rfl rfl rfl rfl (m_pack_Reader_Num_sim e114 hm115.lend :) ?_
       rintro _ w114 ⟨F114_p0, rfl, hq114⟩
       refine ⟨_, rfl, ?_⟩
       have hm117 := hm115.callAZ hq114
       refine gg 3 rfl ?_
       obtain ⟨_, ⟨A118_0, c118_0, A118_1, c118_1, A118_2, c118_2, rfl⟩, hm118⟩ := hm117.unf 0 rfl
       replace hm118 := hm118.nf [_, _, _, _, _, _] rfl
       refine Rn.st rfl rfl Tryz.sizeOf23 rfl rfl rfl rfl (by first | exact ones rfl | (simp [Value.oneCell']; done)) (hm118.get 2 rfl) (by first | exact Nat.le_of_ble_eq_true rfl | (simp; done)) ?_
       intro w122 m122 x122
       have hm123 := (hm118.st 2 rfl x122 m122).nf [_, _, boxR _ _ [_, _, _, _, _, _, _, _, _, _, _, _, _, _, _, _, _], _, _, _] rfl
       refine gg 1 rfl ?_
       have hm125 := (hm123.cut [0, 1] [2, 3, 4, 5] rfl (by decide)).nf ([_, _] ++ [_, _, _, _]) rfl
       obtain ⟨F124, hm124⟩ := hm125.fold (T_api_Point.sh b1 ({ Name := x1.Name, Attrs := x1.Attrs, Kind := x1.Kind, Temp := x1.Temp, Mono := x1.Mono, Start := x1.Start, Time := x1.Time, Int_ := x1.Int_, Re := x1.Re, Im := x1.Im, Hist := ({ Scale := p72.1, Zero := p114.1, Pos := x1.Hist.Pos, Neg := x1.Hist.Neg } : T_api_Hist), Flags := x1.Flags } : T_api_Point)) ⟨A118_0, c118_0, A118_1, c118_1, A118_2, c118_2, rfl⟩
       have hm127 := (hm124.cut [2] [0, 1] rfl (by decide)).nf ([_] ++ [_, _]) rfl
       obtain ⟨F126, hm126⟩ := hm127.fold (T_point_reader.sh b0 ({ Reader := p114.2, e := p72.2.e } : T_point_reader)) ⟨F114_p0, b112_0, rfl⟩
       exact hk2 (({ Name := x1.Name, Attrs := x1.Attrs, Kind := x1.Kind, Temp := x1.Temp, Mono := x1.Mono, Start := x1.Start, Time := x1.Time, Int_ := x1.Int_, Re := x1.Re, Im := x1.Im, Hist := ({ Scale := p72.1, Zero := p114.1, Pos := x1.Hist.Pos, Neg := x1.Hist.Neg } : T_api_Hist), Flags := x1.Flags } : T_api_Point), ({ Reader := p114.2, e := p72.2.e } : T_point_reader), F124, F126) _ _ (Sub.cons rfl (Sub.cons rfl (Sub.nil _))) (hm126.pick [0, 1] rfl (by decide)) hM
      ·replace hM := iteF h111 hM
       refine gg 1 rfl ?_
       exact hk2 (({ Name := x1.Name, Attrs := x1.Attrs, Kind := x1.Kind, Temp := x1.Temp, Mono := x1.Mono, Start := x1.Start, Time := x1.Time, Int_ := x1.Int_, Re := x1.Re, Im := x1.Im, Hist := ({ Scale := p72.1, Zero := x1.Hist.Zero, Pos := x1.Hist.Pos, Neg := x1.Hist.Neg } : T_api_Hist), Flags := x1.Flags } : T_api_Point), p72.2, F84, F86) _ _ (Sub.cons rfl (Sub.cons rfl (Sub.nil _))) (hm86.pick [0, 1] rfl (by decide)) hM
     ·replace hM := iteF h71 hM
      refine gg 2 rfl ?_
      refine Rn.end0 Tryz.func38 rfl ?_
      obtain rfl := someE hM
      exact ⟨F22, F23, rfl, hm25.pick [0, 1] rfl (by decide)⟩
  intro hk1
  clear hj1
  refine Rn.condD rfl (fun h128 => ?_) (fun h128 => ?_)
  ·replace hM := iteT h128 hM
   refine gg 1 rfl ?_
   exact hk1 ((decide (x1.Kind = 2)), F0, F20) _ _ (Sub.cons rfl (Sub.cons rfl (Sub.cons rfl (Sub.cons rfl (Sub.nil _))))) (hm20.pick [0, 1] rfl (by decide)) hM
  ·replace hM := iteF h128 hM
   refine gg 4 rfl ?_
   exact hk1 ((decide (x1.Kind = 3)), F0, F20) _ _ (Sub.cons rfl (Sub.cons rfl (Sub.cons rfl (Sub.cons rfl (Sub.nil _))))) (hm20.pick [0, 1] rfl (by decide)) hM

theorem m_pack_Reader_Done_sim {Z0 : Nat → Prop} {w : World} {F0 : Nat → Prop} {b0 : Nat} {x0 : T_pack_Reader} {r : Int} (hM : m_pack_Reader_Done x0 = some r) (f0 : (fzR (T_pack_Reader.obj F0 b0 x0)).H Z0 w) :
    Calls Tryz.prog 39 #[.pointer (some ⟨b0, 0, none⟩)] w fun x w' => x = .returned (.int .i64 (r)) ∧ Hp Z0 No w w' [] := by
 have hm0 := Hp.nil Z0 No w
 have hc0 := Calm.nil
 have hm2 := hm0.know (fzR (T_pack_Reader.obj F0 b0 x0)) (fun _ h => h) (hm0.in0 hc0 f0)
 replace hc0 := hc0.snoc (r := fzR (T_pack_Reader.obj F0 b0 x0)) (fun _ h => h)
 refine Rn.enter Tryz.func39 rfl rfl (Nat.le_of_ble_eq_true rfl) ?_
 refine gg 10 rfl ?_
 obtain ⟨_, ⟨A3_0, c3_0, rfl⟩, hm3⟩ := hm2.unfz 0 rfl
 replace hm3 := hm3.nf [_, _, _] rfl
 have hm7 := hm3.fzS 2 rfl
 refine Rn.q rfl (V.ldB Tryz.isAgg34 rfl (hm7.getz 1 rfl) rfl) (gg 2 rfl ?_)
 obtain ⟨j1, hj1, hM⟩ := jnE hM
 refine Rn.joinR (r := r) (G := Bool) [] (fun g => [(0, .pointer (some ⟨b0, 0, none⟩)), (12, .bool (g))]) (fun g w' => Hp Z0 No w w' [fzR (T_pack_Reader.obj F0 b0 x0), fzR (boxR b0 106 [.slice A3_0 (x0.b).length c3_0, .int .i64 (x0.at_), .int .i64 (x0.e)]), slR A3_0 c3_0 byteR x0.b]) (fun g => j1 g) ?_ ?_
 ·subst hj1
  clear hM
  rintro y8 w9 hm9 hM
  try dsimp only at hM
  refine gg 1 rfl ?_
  refine Rn.condS rfl (fun h10 => ?_) (fun h10 => ?_)
  ·replace hM := iteT h10 hM
   refine gg 4 rfl ?_
   refine Rn.retG1 Tryz.func39 rfl (rvT rfl) ?_
   obtain rfl := someE hM
   exact ⟨rfl, hm9.pick [] rfl (by decide)⟩
  ·replace hM := iteFB hM h10
   refine gg 6 rfl (Rn.q rfl (V.ldB Tryz.isAgg34 rfl (hm9.getz 1 rfl) rfl) (gg 2 rfl ?_))
   refine Rn.retG1 Tryz.func39 rfl (rvT rfl) ?_
   obtain rfl := someE hM
   exact ⟨rfl, hm9.pick [] rfl (by decide)⟩
 intro hk1
 clear hj1
 refine Rn.partD (t := 8) rfl (fun h11 => ?_) (fun h11 => ?_)
 ·replace hM := iteT h11 hM
  refine gg 1 rfl ?_
  obtain ⟨p12, e12, hM⟩ := bindE hM
  refine Rn.cl ck69 rfl rfl rfl rfl (m_pack_Reader_Left_sim (Z0 := All) e12 (fz_fz (hm7.get 0 rfl)) :) ?_
  rintro _ w12 ⟨rfl, hq12⟩
  refine ⟨_, rfl, ?_⟩
  have hm13 := hm7.call0 hq12
  refine gg 2 rfl ?_
  exact hk1 (decide (p12 > 0)) _ _ (Sub.cons rfl (Sub.cons rfl (Sub.nil _))) (hm13.pick [0, 1, 3] rfl (by decide)) hM
 ·replace hM := iteF h11 hM
  refine gg 4 rfl ?_
  exact hk1 false _ _ (Sub.cons rfl (Sub.cons rfl (Sub.nil _))) (hm7.pick [0, 1, 3] rfl (by decide)) hM

theorem m_internal_stringslite_IndexByte_sim {Z0 : Nat → Prop} {w : World} {x0 : (List UInt8)} {x1 : UInt8} {r : Int} (hM : m_internal_stringslite_IndexByte x0 x1 = some r)  :
    Calls Tryz.prog 97 #[Str (x0), .int .u8 (((x1).toNat : Nat) : Int)] w fun x w' => x = .returned (.int .i64 (r)) ∧ Hp Z0 No w w' [] := by
 have hm0 := Hp.nil Z0 No w
 have hc0 := Calm.nil
 refine Rn.enter Tryz.func97 rfl rfl (Nat.le_of_ble_eq_true rfl) ?_
 refine gg 8 rfl (Rn.q rfl (V.indexByte (s := x0) (c := x1) Tryz.func102 (by kernel_rfl) (by kernel_rfl) (by kernel_rfl) (by kernel_rfl) rfl) (gg 2 rfl ?_))
 refine Rn.retG1 Tryz.func97 rfl (rvT rfl) ?_
 obtain rfl := someE hM
 exact ⟨rfl, hm0.pick [] rfl (by decide)⟩

theorem m_internal_stringslite_Index_sim {Z0 : Nat → Prop} {w : World} {x0 : (List UInt8)} {x1 : (List UInt8)} {r : Int} (hM : m_internal_stringslite_Index x0 x1 = some r)  :
    Calls Tryz.prog 94 #[Str (x0), Str (x1)] w fun x w' => x = .returned (.int .i64 (r)) ∧ Hp Z0 No w w' [] := by
 have hm0 := Hp.nil Z0 No w
 have hc0 := Calm.nil
 refine Rn.enter Tryz.func94 rfl rfl (Nat.le_of_ble_eq_true rfl) ?_
 refine gg 7 rfl (Rn.q rfl (V.lenS Tryz.underlying9 rfl) (gg 9 rfl ?_))
 refine Rn.cutR [7] [(0, Str (x0)), (1, Str (x1)), (5, .int .i64 ((x1.length : Int))), (23, .bool (decide (((x1.length : Int) = 0) ∨ (x1 = x0))))] (fun hk1 => ?_) ?_
 ·refine Rn.partD (t := 19) rfl (fun h2 => ?_) (fun h2 => ?_)
  ·refine gg 4 rfl ?_
   refine hk1 _ ?_
   exact Sub.cons rfl (Sub.cons rfl (Sub.cons rfl (Sub.cons (lkv _ rfl (by first | exact andT h2 | exact andF h2 | exact orT h2 | exact orF h2 | exact nandF h2 | exact nandT h2 | exact norT h2 | exact norF h2 | (simp [h2]; done) | grind)) (Sub.nil _))))
  ·refine gg 2 rfl (Rn.q rfl (V.eqlS rfl rfl) (gg 1 rfl ?_))
   refine hk1 _ ?_
   exact Sub.cons rfl (Sub.cons rfl (Sub.cons rfl (Sub.cons (lkv _ rfl (by first | exact andT h2 | exact andF h2 | exact orT h2 | exact orF h2 | exact nandF h2 | exact nandT h2 | exact norT h2 | exact norF h2 | (simp [h2]; done) | grind)) (Sub.nil _))))
 refine gg 2 rfl ?_
 refine Rn.condD rfl (fun h3 => ?_) (fun h3 => ?_)
 ·replace hM := iteT h3 hM
  refine gg 4 rfl ?_
  refine Rn.retG1 Tryz.func94 rfl (rvT rfl) ?_
  obtain rfl := someE hM
  exact ⟨rfl, hm0.pick [] rfl (by decide)⟩
 ·replace hM := iteF h3 hM
  refine gg 6 rfl ?_
  refine Rn.condD rfl (fun h4 => ?_) (fun h4 => ?_)
  ·replace hM := iteT h4 hM
   refine gg 4 rfl ?_
   obtain ⟨z5, e5, hM⟩ := bindE hM
   refine Rn.q rfl (V.idxSZ Tryz.underlying9 rfl rfl e5) ?_
   obtain ⟨p6, e6, hM⟩ := bindE hM
   refine Rn.cl ck97 rfl rfl rfl rfl (m_internal_stringslite_IndexByte_sim (Z0 := All) e6  :) ?_
   rintro _ w6 ⟨rfl, hq6⟩
   refine ⟨_, rfl, ?_⟩
   have hm7 := hm0.call0 hq6
   refine gg 2 rfl ?_
   refine Rn.retG1 Tryz.func94 rfl (rvT rfl) ?_
   obtain rfl := someE hM
   exact ⟨rfl, hm7.pick [] rfl (by decide)⟩
  ·replace hM := iteF h4 hM
   refine gg 4 rfl (Rn.q rfl (V.lenS Tryz.underlying9 rfl) (gg 3 rfl ?_))
   refine Rn.condD rfl (fun h8 => ?_) (fun h8 => ?_)
   ·replace hM := iteT h8 hM
    refine gg 4 rfl ?_
    refine Rn.retG1 Tryz.func94 rfl (rvT rfl) ?_
    obtain rfl := someE hM
    exact ⟨rfl, hm0.pick [] rfl (by decide)⟩
   ·replace hM := iteF h8 hM
    cases hM

theorem m_internal_stringslite_Cut_sim {Z0 : Nat → Prop} {w : World} {x0 : (List UInt8)} {x1 : (List UInt8)} {r : ((List UInt8) × (List UInt8) × Bool)} (hM : m_internal_stringslite_Cut x0 x1 = some r)  :
    Calls Tryz.prog 88 #[Str (x0), Str (x1)] w fun x w' => x = .returned (.tuple #[Str (r.1), Str (r.2.1), .bool (r.2.2)]) ∧ Hp Z0 No w w' [] := by
 have hm0 := Hp.nil Z0 No w
 have hc0 := Calm.nil
 refine Rn.enter Tryz.func88 rfl rfl (Nat.le_of_ble_eq_true rfl) ?_
 refine gg 11 rfl ?_
 obtain ⟨p1, e1, hM⟩ := bindE hM
 refine Rn.cl ck94 rfl rfl rfl rfl (m_internal_stringslite_Index_sim (Z0 := All) e1  :) ?_
 rintro _ w1 ⟨rfl, hq1⟩
 refine ⟨_, rfl, ?_⟩
 have hm2 := hm0.call0 hq1
 refine gg 7 rfl ?_
 refine Rn.condD rfl (fun h3 => ?_) (fun h3 => ?_)
 ·replace hM := iteT h3 hM
  refine gg 1 rfl ?_
  refine Rn.drawP rfl hm2 ?_
  intro w4 hm4
  refine dd [0, 1] (by kernel_rfl) rfl rfl ?_
  obtain ⟨z5, e5, hM⟩ := bindE hM
  refine RH.takeP 2 (by kernel_rfl) rfl rfl rfl rfl (V.cutSZ Tryz.underlying9 rfl e5 rfl rfl) ?_
  refine dd [3, 4, 5] (by kernel_rfl) rfl rfl ?_
  refine RH.takeP 6 (by kernel_rfl) rfl rfl rfl rfl (V.lenS Tryz.underlying9 rfl) ?_
  refine dd [7] (by kernel_rfl) rfl rfl ?_
  obtain ⟨z6, e6, hM⟩ := bindE hM
  refine RH.takeP 8 (by kernel_rfl) rfl rfl rfl rfl (V.cutSZ Tryz.underlying9 rfl e6 rfl rfl) ?_
  refine dd [9, 10, 11] (by kernel_rfl) rfl rfl ?_
  refine RH.doneP (by kernel_rfl) ?_
  refine Rn.retG3 Tryz.func88 rfl (rvT rfl) (rvT rfl) (rvT rfl) ?_
  obtain rfl := someE hM
  exact ⟨rfl, hm4.pick [] rfl (by decide)⟩
 ·replace hM := iteF h3 hM
  refine gg 8 rfl ?_
  refine Rn.retG3 Tryz.func88 rfl (rvT rfl) (rvT rfl) (rvT rfl) ?_
  obtain rfl := someE hM
  exact ⟨rfl, hm2.pick [] rfl (by decide)⟩

theorem m_strings_Cut_sim {Z0 : Nat → Prop} {w : World} {x0 : (List UInt8)} {x1 : (List UInt8)} {r : ((List UInt8) × (List UInt8) × Bool)} (hM : m_strings_Cut x0 x1 = some r)  :
    Calls Tryz.prog 70 #[Str (x0), Str (x1)] w fun x w' => x = .returned (.tuple #[Str (r.1), Str (r.2.1), .bool (r.2.2)]) ∧ Hp Z0 No w w' [] := by
 have hm0 := Hp.nil Z0 No w
 have hc0 := Calm.nil
 refine Rn.enter Tryz.func70 rfl rfl (Nat.le_of_ble_eq_true rfl) ?_
 refine gg 10 rfl ?_
 obtain ⟨p1, e1, hM⟩ := bindE hM
 refine Rn.cl ck88 rfl rfl rfl rfl (m_internal_stringslite_Cut_sim (Z0 := All) e1  :) ?_
 rintro _ w1 ⟨rfl, hq1⟩
 refine ⟨_, rfl, ?_⟩
 have hm2 := hm0.call0 hq1
 refine gg 7 rfl ?_
 refine Rn.retG3 Tryz.func70 rfl (rvT rfl) (rvT rfl) (rvT rfl) ?_
 obtain rfl := someE hM
 exact ⟨rfl, hm2.pick [] rfl (by decide)⟩

theorem m_label_pair_sim {Z0 : Nat → Prop} {w : World} {x0 : (List UInt8)} {r : (T_api_Pair × Int)} (hM : m_label_pair x0 = some r)  :
    Calls Tryz.prog 71 #[Str (x0)] w fun x w' => x = .returned (.tuple #[.agg [Str (r.1.Key), Str (r.1.Val)].toArray, .int .i64 (r.2)]) ∧ Hp Z0 No w w' [] := by
 have hm0 := Hp.nil Z0 No w
 have hc0 := Calm.nil
 refine Rn.enter Tryz.func71 rfl rfl (Nat.le_of_ble_eq_true rfl) ?_
 refine gg 2 rfl (Rn.alloc rfl rfl rfl Tryz.zeroValue42 rfl ?_)
 intro b1 w1 hb1 m1 e1
 have hm3 := (hm0.addBox hb1 e1 m1).nf [boxR _ _ [_, _]] rfl
 refine gg 5 rfl ?_
 obtain ⟨p4, e4, hM⟩ := bindE hM
 refine Rn.cl ck70 rfl rfl rfl rfl (m_strings_Cut_sim (Z0 := All) e4  :) ?_
 rintro _ w4 ⟨rfl, hq4⟩
 refine ⟨_, rfl, ?_⟩
 have hm5 := hm3.call0 hq4
 refine gg 12 rfl (Rn.q rfl (V.notB rfl) (gg 1 rfl ?_))
 obtain ⟨j1, hj1, hM⟩ := jnE hM
 refine Rn.joinR (r := r) (G := Bool) [7, 8, 9, 10, 11] (fun g => [(2, .pointer (some ⟨b1, 0, none⟩)), (4, Str (p4.1)), (5, Str (p4.2.1)), (19, .bool (g))]) (fun g w' => Hp Z0 No w w' [boxR b1 42 [Str (([] : List UInt8)), Str (([] : List UInt8))]]) (fun g => j1 g) ?_ ?_
 ·subst hj1
  clear hM
  rintro y6 w7 hm7 hM
  try dsimp only at hM
  refine gg 1 rfl ?_
  obtain ⟨j2, hj2, hM⟩ := jnE hM
  refine Rn.joinR (r := r) (G := Bool) [] (fun g => [(2, .pointer (some ⟨b1, 0, none⟩)), (4, Str (p4.1)), (5, Str (p4.2.1)), (24, .bool (g))]) (fun g w' => Hp Z0 No w w' [boxR b1 42 [Str (([] : List UInt8)), Str (([] : List UInt8))]]) (fun g => j2 g) ?_ ?_
  ·subst hj2
   clear hM
   rintro y8 w9 hm9 hM
   try dsimp only at hM
   refine gg 1 rfl ?_
   refine Rn.condS rfl (fun h10 => ?_) (fun h10 => ?_)
   ·replace hM := iteT h10 hM
    refine gg 2 rfl (Rn.q rfl (V.bldS (cs := [_, _]) st42 rfl rfl) (Rn.st rfl rfl Tryz.sizeOf42 rfl rfl rfl rfl (by first | exact ones rfl | (simp [Value.oneCell']; done)) (hm9.get 0 rfl) (by first | exact Nat.le_of_ble_eq_true rfl | (simp; done)) ?_))
    intro w11 m11 x11
    have hm12 := (hm9.st 0 rfl x11 m11).nf [boxR _ _ [_, _]] rfl
    refine gg 2 rfl ?_
    refine Rn.retG2 Tryz.func71 rfl (rvC rfl Tryz.isAgg42 Tryz.sizeOf42 (hm12.get 0 rfl) rfl) (rvT rfl) ?_
    obtain rfl := someE hM
    exact ⟨rfl, hm12.pick [] rfl (by decide)⟩
   ·replace hM := iteFB hM h10
    refine gg 5 rfl (Rn.q rfl (V.bldS (cs := [_, _]) st42 rfl rfl) (Rn.st rfl rfl Tryz.sizeOf42 rfl rfl rfl rfl (by first | exact ones rfl | (simp [Value.oneCell']; done)) (hm9.get 0 rfl) (by first | exact Nat.le_of_ble_eq_true rfl | (simp; done)) ?_))
    intro w13 m13 x13
    have hm14 := (hm9.st 0 rfl x13 m13).nf [boxR _ _ [_, _]] rfl
    refine gg 2 rfl ?_
    refine Rn.retG2 Tryz.func71 rfl (rvC rfl Tryz.isAgg42 Tryz.sizeOf42 (hm14.get 0 rfl) rfl) (rvT rfl) ?_
    obtain rfl := someE hM
    exact ⟨rfl, hm14.pick [] rfl (by decide)⟩
  intro hk2
  clear hj2
  refine Rn.part (t := 20) rfl (fun h15 => ?_) (fun h15 => ?_)
  ·replace hM := iteT h15 hM
   refine gg 4 rfl ?_
   exact hk2 true _ _ (Sub.cons rfl (Sub.cons rfl (Sub.cons rfl (Sub.cons rfl (Sub.nil _))))) (hm7.pick [0] rfl (by decide)) hM
  ·replace hM := iteFB hM h15
   refine gg 1 rfl ?_
   obtain ⟨p16, e16, hM⟩ := bindE hM
   refine Rn.cl ck54 rfl rfl rfl rfl (m_label_isValue_sim (Z0 := All) e16  :) ?_
   rintro _ w16 ⟨rfl, hq16⟩
   refine ⟨_, rfl, ?_⟩
   have hm17 := hm7.call0 hq16
   refine Rn.q rfl (V.notB rfl) (gg 1 rfl ?_)
   exact hk2 (!p16) _ _ (Sub.cons rfl (Sub.cons rfl (Sub.cons rfl (Sub.cons rfl (Sub.nil _))))) (hm17.pick [0] rfl (by decide)) hM
 intro hk1
 clear hj1
 refine Rn.part (t := 15) rfl (fun h18 => ?_) (fun h18 => ?_)
 ·replace hM := iteT h18 hM
  refine gg 4 rfl ?_
  exact hk1 true _ _ (Sub.cons rfl (Sub.cons rfl (Sub.cons rfl (Sub.cons rfl (Sub.nil _))))) (hm5.pick [0] rfl (by decide)) hM
 ·replace hM := iteFB hM h18
  refine gg 1 rfl ?_
  obtain ⟨p19, e19, hM⟩ := bindE hM
  refine Rn.cl ck53 rfl rfl rfl rfl (m_label_isName_sim (Z0 := All) e19  :) ?_
  rintro _ w19 ⟨rfl, hq19⟩
  refine ⟨_, rfl, ?_⟩
  have hm20 := hm5.call0 hq19
  refine Rn.q rfl (V.notB rfl) (gg 1 rfl ?_)
  exact hk1 (!p19) _ _ (Sub.cons rfl (Sub.cons rfl (Sub.cons rfl (Sub.cons rfl (Sub.nil _))))) (hm20.pick [0] rfl (by decide)) hM

theorem m_label_follows_sim {Z0 : Nat → Prop} {w : World} {A0 : Option Addr} {c0 : Nat} {x0 : (List T_api_Pair)} {x1 : (List UInt8)} {r : Int} (hM : m_label_follows x0 x1 = some r) (f0 : (slR A0 c0 T_api_Pair.rep x0).H Z0 w) :
    Calls Tryz.prog 72 #[.slice A0 (x0).length c0, Str (x1)] w fun x w' => x = .returned (.int .i64 (r)) ∧ Hp Z0 No w w' [] := by
 have hm0 := Hp.nil Z0 No w
 have hc0 := Calm.nil
 have hm2 := hm0.know (slR A0 c0 T_api_Pair.rep x0) (fun _ h => h) (hm0.in0 hc0 f0)
 replace hc0 := hc0.snoc (r := slR A0 c0 T_api_Pair.rep x0) (fun _ h => h)
 refine Rn.enter Tryz.func72 rfl rfl (Nat.le_of_ble_eq_true rfl) ?_
 refine gg 8 rfl (Rn.q rfl (V.lenV Tryz.underlying22 rfl) (gg 2 rfl ?_))
 obtain ⟨j1, hj1, hM⟩ := jnE hM
 refine Rn.joinG (r := r) (G := Unit) (fun g => [(0, .slice A0 (x0).length c0), (1, Str (x1))]) (fun g w' => Hp Z0 No w w' [slR A0 c0 T_api_Pair.rep x0]) (fun g => j1 ()) ?_ ?_
 ·subst hj1
  clear hM
  rintro _ w3 hm3 hM
  try dsimp only at hM
  refine gg 6 rfl (Rn.q rfl (V.lenV Tryz.underlying22 rfl) (gg 1 rfl ?_))
  obtain ⟨z4, e4, hM⟩ := bindE hM
  refine Rn.ixH hm3 0 rfl e4 rfl rfl rfl Tryz.underlying22 Tryz.sizeOf42 rfl rfl rfl rfl ?_
  rintro b4 o4 vs4 ⟨_, _, rfl, ⟨rfl, _⟩, ⟨rfl, _⟩⟩ hm4
  refine gg 1 rfl (Rn.q rfl (V.ldR0 Tryz.isAgg9 rfl (hm4.get 1 rfl).2 rfl) (Rn.q rfl (V.lssS rfl rfl) (gg 1 rfl ?_)))
  refine Rn.condS rfl (fun h6 => ?_) (fun h6 => ?_)
  ·replace hM := iteT h6 hM
   refine gg 4 rfl ?_
   refine Rn.retG1 Tryz.func72 rfl (rvT rfl) ?_
   obtain rfl := someE hM
   exact ⟨rfl, hm4.pick [] rfl (by decide)⟩
  ·replace hM := iteFB hM h6
   refine gg 5 rfl ?_
   refine Rn.retG1 Tryz.func72 rfl (rvT rfl) ?_
   obtain rfl := someE hM
   exact ⟨rfl, hm4.pick [] rfl (by decide)⟩
 intro hk1
 clear hj1
 refine gg 1 rfl ?_
 refine Rn.loopF (G := Int) (fun g => [(0, .slice A0 (x0).length c0), (1, Str (x1)), (7, .slice A0 (x0).length c0), (8, .int .i64 ((x0.length : Int))), (9, .int .i64 (g))]) (fun g w' => Hp Z0 No w w' [slR A0 c0 T_api_Pair.rep x0]) (fun n g => m_label_follows_L1 x0 x1 j1 n g) fuel 0 (Sub.cons rfl (Sub.cons rfl (Sub.cons rfl (Sub.cons rfl (Sub.cons rfl (Sub.nil _)))))) (hm2.pick [0] rfl (by decide)) hM (fun _ => rfl) ?_
 clear hM
 rintro m8 y7 w8 hm8 hM hn8
 replace hM : m_label_follows_L1 x0 x1 j1 (m8 + 1) y7 = some r := hM
 rw [m_label_follows_L1] at hM
 refine gg 5 rfl ?_
 refine Rn.condD rfl (fun h9 => ?_) (fun h9 => ?_)
 ·replace hM := iteT h9 hM
  refine gg 5 rfl ?_
  obtain ⟨z10, e10, hM⟩ := bindE hM
  refine Rn.ixH hm8 0 rfl e10 rfl rfl rfl Tryz.underlying22 Tryz.sizeOf42 rfl rfl rfl rfl ?_
  rintro b10 o10 vs10 ⟨_, _, rfl, ⟨rfl, _⟩, ⟨rfl, _⟩⟩ hm10
  refine Rn.q rfl (V.ldA (vs := [_, _]) Tryz.isAgg42 Tryz.sizeOf42 rfl (Rd.pre (hm10.get 1 rfl).2 2) rfl) (Rn.als rfl rfl rfl Tryz.zeroValue42 rfl Tryz.sizeOf42 rfl rfl rfl rfl (by first | exact ones rfl | (simp [Value.oneCell']; done)) ?_)
  intro b12 w12 hb12 m12 e12
  have hm14 := (hm10.addBox hb12 e12 m12).nf [_, _, boxR _ _ [_, _]] rfl
  refine gg 4 rfl (Rn.q rfl (V.ldB Tryz.isAgg9 rfl (hm14.get 2 rfl) rfl) (gg 1 rfl (Rn.q rfl (V.eqlS rfl rfl) (gg 1 rfl ?_))))
  refine Rn.condD rfl (fun h15 => ?_) (fun h15 => ?_)
  ·replace hM := iteT h15 hM
   refine gg 4 rfl ?_
   refine Rn.retG1 Tryz.func72 rfl (rvT rfl) ?_
   obtain rfl := someE hM
   exact ⟨rfl, hm14.pick [] rfl (by decide)⟩
  ·replace hM := iteF h15 hM
   refine gg 6 rfl ?_
   exact hn8 (W64 (y7 + 1)) _ _ (Sub.cons rfl (Sub.cons rfl (Sub.cons rfl (Sub.cons rfl (Sub.cons rfl (Sub.nil _)))))) (hm14.pick [0] rfl (by decide)) hM
 ·replace hM := iteF h9 hM
  refine gg 1 rfl ?_
  exact hk1 () _ _ (Sub.cons rfl (Sub.cons rfl (Sub.nil _))) (hm8.pick [0] rfl (by decide)) hM

theorem m_label_Parse_sim {Z0 : Nat → Prop} {w : World} {x0 : (List UInt8)} {r : ((List UInt8) × (List T_api_Pair) × Int × Int)} (hM : m_label_Parse x0 = some r)  :
    Calls Tryz.prog 40 #[Str (x0)] w fun x w' => ∃ A_1_0 c_1_0, x = .returned (.tuple #[Str (r.1), .slice A_1_0 (r.2.1).length c_1_0, .int .i64 (r.2.2.1), .int .i64 (r.2.2.2)]) ∧ Hp Z0 No w w' [ownR 42 A_1_0 c_1_0 T_api_Pair.rep r.2.1] := by
 have hm0 := Hp.nil Z0 No w
 have hc0 := Calm.nil
 refine Rn.enter Tryz.func40 rfl rfl (Nat.le_of_ble_eq_true rfl) ?_
 refine gg 10 rfl ?_
 obtain ⟨p1, e1, hM⟩ := bindE hM
 refine Rn.cl ck70 rfl rfl rfl rfl (m_strings_Cut_sim (Z0 := All) e1  :) ?_
 rintro _ w1 ⟨rfl, hq1⟩
 refine ⟨_, rfl, ?_⟩
 have hm2 := hm0.call0 hq1
 refine gg 12 rfl ?_
 obtain ⟨p3, e3, hM⟩ := bindE hM
 refine Rn.cl ck53 rfl rfl rfl rfl (m_label_isName_sim (Z0 := All) e3  :) ?_
 rintro _ w3 ⟨rfl, hq3⟩
 refine ⟨_, rfl, ?_⟩
 have hm4 := hm2.call0 hq3
 refine Rn.q rfl (V.notB rfl) (gg 1 rfl ?_)
 refine Rn.condS rfl (fun h5 => ?_) (fun h5 => ?_)
 ·replace hM := iteT h5 hM
  refine gg 7 rfl ?_
  have hm6 := hm4.addNil 42 T_api_Pair.rep
  refine Rn.retG4 Tryz.func40 rfl (rvT rfl) (rvT rfl) (rvT rfl) (rvT rfl) ?_
  obtain rfl := someE hM
  exact ⟨none, 0, rfl, hm6.pick [0] rfl (by decide)⟩
 ·replace hM := iteFB hM h5
  refine gg 5 rfl (Rn.q rfl (V.lenS Tryz.underlying9 rfl) (gg 3 rfl ?_))
  obtain ⟨j1, hj1, hM⟩ := jnE hM
  refine Rn.joinG (r := r) (G := (List T_api_Pair) × Option Addr × Nat) (fun g => [(2, Str (p1.1)), (3, .slice (g.2.1) ((g.1)).length (g.2.2))]) (fun g w' => Hp Z0 No w w' [ownR 42 (g.2.1) (g.2.2) T_api_Pair.rep (g.1)]) (fun g => j1 g.1) ?_ ?_
  ·subst hj1
   clear hM
   rintro ⟨y8, A9, c9⟩ w11 hm11 hM
   try dsimp only at hM
   refine gg 9 rfl ?_
   refine Rn.retG4 Tryz.func40 rfl (rvT rfl) (rvT rfl) (rvT rfl) (rvT rfl) ?_
   obtain rfl := someE hM
   exact ⟨A9, c9, rfl, hm11.pick [0] rfl (by decide)⟩
  intro hk1
  clear hj1
  refine gg 1 rfl ?_
  have hm18 := hm4.addNil 42 T_api_Pair.rep
  refine Rn.loopF (G := (List T_api_Pair) × Int × (List UInt8) × Bool × Option Addr × Nat) (fun g => [(2, Str (p1.1)), (3, .slice (g.2.2.2.2.1) ((g.1)).length (g.2.2.2.2.2)), (4, .int .i64 ((g.2.1))), (6, Str ((g.2.2.1))), (7, .bool ((g.2.2.2.1)))]) (fun g w' => Hp Z0 No w w' [ownR 42 (g.2.2.2.2.1) (g.2.2.2.2.2) T_api_Pair.rep (g.1)]) (fun n g => m_label_Parse_L1 j1 n g.1 g.2.1 g.2.2.1 g.2.2.2.1) fuel (([] : List T_api_Pair), (W64 ((p1.1.length : Int) + 1)), p1.2.1, p1.2.2, none, 0) (Sub.cons rfl (Sub.cons rfl (Sub.cons rfl (Sub.cons rfl (Sub.cons rfl (Sub.nil _)))))) (hm18.pick [0] rfl (by decide)) hM (fun _ => rfl) ?_
  clear hM
  rintro m20 ⟨y12, y15, y16, y17, A13, c13⟩ w20 hm20 hM hn20
  replace hM : m_label_Parse_L1 j1 (m20 + 1) y12 y15 y16 y17 = some r := hM
  rw [m_label_Parse_L1] at hM
  refine gg 5 rfl ?_
  refine Rn.condS rfl (fun h21 => ?_) (fun h21 => ?_)
  ·replace hM := iteT h21 hM
   refine gg 9 rfl ?_
   obtain ⟨p22, e22, hM⟩ := bindE hM
   refine Rn.cl ck70 rfl rfl rfl rfl (m_strings_Cut_sim (Z0 := All) e22  :) ?_
   rintro _ w22 ⟨rfl, hq22⟩
   refine ⟨_, rfl, ?_⟩
   have hm23 := hm20.call0 hq22
   refine gg 11 rfl ?_
   obtain ⟨p24, e24, hM⟩ := bindE hM
   refine Rn.cl ck71 rfl rfl rfl rfl (m_label_pair_sim (Z0 := All) e24  :) ?_
   rintro _ w24 ⟨rfl, hq24⟩
   refine ⟨_, rfl, ?_⟩
   have hm25 := hm23.call0 hq24
   refine gg 3 rfl (Rn.als rfl rfl rfl Tryz.zeroValue42 rfl Tryz.sizeOf42 rfl rfl rfl rfl (by first | exact ones rfl | (simp [Value.oneCell']; done)) ?_)
   intro b26 w26 hb26 m26 e26
   have hm28 := (hm25.addBox hb26 e26 m26).nf [_, boxR _ _ [_, _]] rfl
   refine gg 6 rfl (Rn.q rfl (V.lenV Tryz.underlying22 rfl) (gg 2 rfl ?_))
   obtain ⟨j2, hj2, hM⟩ := jnE hM
   refine Rn.joinG (r := r) (G := Int) (fun g => [(2, Str (p1.1)), (3, .slice A13 (y12).length c13), (4, .int .i64 (y15)), (6, Str (p22.2.1)), (7, .bool (p22.2.2)), (8, Str (p22.1)), (9, .pointer (some ⟨b26, 0, none⟩)), (10, .int .i64 (g))]) (fun g w' => Hp Z0 No w w' [ownR 42 A13 c13 T_api_Pair.rep y12, boxR b26 42 [Str (p24.1.Key), Str (p24.1.Val)]]) (fun g => j2 g) ?_ ?_
   ·subst hj2
    clear hM
    rintro y29 w30 hm30 hM
    try dsimp only at hM
    refine gg 6 rfl ?_
    refine Rn.cutR [] [(2, Str (p1.1)), (3, .slice A13 (y12).length c13), (4, .int .i64 (y15)), (6, Str (p22.2.1)), (7, .bool (p22.2.2)), (8, Str (p22.1)), (9, .pointer (some ⟨b26, 0, none⟩)), (10, .int .i64 (y29)), (44, .bool (decide ((y29 = 0) ∧ ((y12.length : Int) > 0))))] (fun hk31 => ?_) ?_
    ·refine Rn.partD (t := 40) rfl (fun h32 => ?_) (fun h32 => ?_)
     ·refine gg 1 rfl (Rn.q rfl (V.lenV Tryz.underlying22 rfl) (gg 2 rfl ?_))
      refine hk31 _ ?_
      exact Sub.cons rfl (Sub.cons rfl (Sub.cons rfl (Sub.cons rfl (Sub.cons rfl (Sub.cons rfl (Sub.cons rfl (Sub.cons rfl (Sub.cons (lkv _ rfl (by first | exact andT h32 | exact andF h32 | exact orT h32 | exact orF h32 | exact nandF h32 | exact nandT h32 | exact norT h32 | exact norF h32 | (simp [h32]; done) | grind)) (Sub.nil _)))))))))
     ·refine gg 4 rfl ?_
      refine hk31 _ ?_
      exact Sub.cons rfl (Sub.cons rfl (Sub.cons rfl (Sub.cons rfl (Sub.cons rfl (Sub.cons rfl (Sub.cons rfl (Sub.cons rfl (Sub.cons (lkv _ rfl (by first | exact andT h32 | exact andF h32 | exact orT h32 | exact orF h32 | exact nandF h32 | exact nandT h32 | exact norT h32 | exact norF h32 | (simp [h32]; done) | grind)) (Sub.nil _)))))))))
    refine gg 1 rfl ?_
    obtain ⟨j3, hj3, hM⟩ := jnE hM
    refine Rn.joinG (r := r) (G := Int) (fun g => [(2, Str (p1.1)), (3, .slice A13 (y12).length c13), (4, .int .i64 (y15)), (6, Str (p22.2.1)), (7, .bool (p22.2.2)), (8, Str (p22.1)), (9, .pointer (some ⟨b26, 0, none⟩)), (10, .int .i64 (g))]) (fun g w' => Hp Z0 No w w' [ownR 42 A13 c13 T_api_Pair.rep y12, boxR b26 42 [Str (p24.1.Key), Str (p24.1.Val)]]) (fun g => j3 g) ?_ ?_
    ·subst hj3
     clear hM
     rintro y33 w34 hm34 hM
     try dsimp only at hM
     refine gg 6 rfl ?_
     refine Rn.condD rfl (fun h35 => ?_) (fun h35 => ?_)
     ·replace hM := iteT h35 hM
      refine gg 9 rfl ?_
      have hm36 := hm34.addNil 42 T_api_Pair.rep
      refine Rn.retG4 Tryz.func40 rfl (rvT rfl) (rvT rfl) (rvT rfl) (rvT rfl) ?_
      obtain rfl := someE hM
      exact ⟨none, 0, rfl, hm36.pick [2] rfl (by decide)⟩
     ·replace hM := iteF h35 hM
      refine gg 4 rfl (Rn.q rfl (V.ldBA [_, _] Tryz.isAgg42 Tryz.sizeOf42 rfl (hm34.get 1 rfl) rfl rfl) ?_)
      obtain ⟨z38, e38, hM⟩ := bindE hM
      refine Rn.pushH (z := p24.1) (vs := [Str (p24.1.Key), Str (p24.1.Val)]) hm34 0 rfl e38 rfl rfl rfl rfl Tryz.underlying22 el42 rfl rfl rfl rfl (fun _ => rfl) (⟨_, _, rfl, ⟨rfl, trivial⟩, ⟨rfl, trivial⟩⟩) ?_
      intro A38 c38 w38 u38 hm38
      refine gg 5 rfl (Rn.q rfl (V.lenS Tryz.underlying9 rfl) (gg 5 rfl ?_))
      exact hn20 (z38, (W64 (y15 + (W64 ((p22.1.length : Int) + 1)))), p22.2.1, p22.2.2, A38, c38) _ _ (Sub.cons rfl (Sub.cons rfl (Sub.cons rfl (Sub.cons rfl (Sub.cons rfl (Sub.nil _)))))) (hm38.pick [0] rfl (by decide)) hM
    intro hk3
    clear hj3
    refine Rn.condD rfl (fun h40 => ?_) (fun h40 => ?_)
    ·replace hM := iteT h40 hM
     refine gg 3 rfl (Rn.q rfl (V.ldB Tryz.isAgg9 rfl (hm30.get 1 rfl) rfl) ?_)
     obtain ⟨p41, e41, hM⟩ := bindE hM
     refine Rn.cl ck72 rfl rfl rfl rfl (m_label_follows_sim (Z0 := All) e41 (own_slR (hm30.get 0 rfl)) :) ?_
     rintro _ w41 ⟨rfl, hq41⟩
     refine ⟨_, rfl, ?_⟩
     have hm42 := hm30.call0 hq41
     refine gg 2 rfl ?_
     exact hk3 p41 _ _ (Sub.cons rfl (Sub.cons rfl (Sub.cons rfl (Sub.cons rfl (Sub.cons rfl (Sub.cons rfl (Sub.cons rfl (Sub.cons rfl (Sub.nil _))))))))) (hm42.pick [0, 1] rfl (by decide)) hM
    ·replace hM := iteF h40 hM
     refine gg 1 rfl ?_
     exact hk3 y29 _ _ (Sub.cons rfl (Sub.cons rfl (Sub.cons rfl (Sub.cons rfl (Sub.cons rfl (Sub.cons rfl (Sub.cons rfl (Sub.cons rfl (Sub.nil _))))))))) (hm30.pick [0, 1] rfl (by decide)) hM
   intro hk2
   clear hj2
   refine Rn.condD rfl (fun h43 => ?_) (fun h43 => ?_)
   ·replace hM := iteT h43 hM
    refine gg 3 rfl ?_
    exact hk2 4 _ _ (Sub.cons rfl (Sub.cons rfl (Sub.cons rfl (Sub.cons rfl (Sub.cons rfl (Sub.cons rfl (Sub.cons rfl (Sub.cons rfl (Sub.nil _))))))))) (hm28.pick [0, 1] rfl (by decide)) hM
   ·replace hM := iteF h43 hM
    refine gg 1 rfl ?_
    exact hk2 p24.2 _ _ (Sub.cons rfl (Sub.cons rfl (Sub.cons rfl (Sub.cons rfl (Sub.cons rfl (Sub.cons rfl (Sub.cons rfl (Sub.cons rfl (Sub.nil _))))))))) (hm28.pick [0, 1] rfl (by decide)) hM
  ·replace hM := iteFB hM h21
   refine gg 1 rfl ?_
   exact hk1 (y12, A13, c13) _ _ (Sub.cons rfl (Sub.cons rfl (Sub.nil _))) (hm20.pick [0] rfl (by decide)) hM

end Go.Proofs.YtfcpdojcfogkbaaGreat
