/-
  The calls of functions of the program answer as their plain forms say, part 6. Printed by a program.
-/
import Derived.Test.YtfcpdojcfogkbaaGreatRows
import Derived.Test.YtfcpdojcfogkbaaGreatSA5
set_option maxRecDepth 20000
set_option maxHeartbeats 4000000
set_option linter.unusedVariables false
set_option linter.unusedSimpArgs false
namespace Go.Proofs.YtfcpdojcfogkbaaGreat
open Go Go.RowKit Go.Wk
theorem m_limnographref12_Same_sim {Z0 : Nat → Prop} {w : World} {x0 : T_api_Point} {cs0 : List Value} {x1 : T_api_Point} {cs1 : List Value} {r : Bool} (hM : m_limnographref12_Same x0 x1 = some r) (h0 : T_api_Point.rep.rel Z0 w cs0 x0) (h1 : T_api_Point.rep.rel Z0 w cs1 x1) :
    Calls Tryz.prog 11 #[.agg cs0.toArray, .agg cs1.toArray] w fun x w' => x = .returned (.bool (r)) ∧ Hp Z0 No w w' [] := by
 have hm0 := Hp.nil Z0 No w
 have hc0 := Calm.nil
 obtain ⟨_, _, rfl, ⟨rfl, _⟩, ⟨_, _, rfl, ⟨A1, c1, rfl, p1, q1, s1⟩, ⟨_, _, rfl, ⟨rfl, _⟩, ⟨_, _, rfl, ⟨rfl, _⟩, ⟨_, _, rfl, ⟨rfl, _⟩, ⟨_, _, rfl, ⟨rfl, _⟩, ⟨_, _, rfl, ⟨rfl, _⟩, ⟨_, _, rfl, ⟨rfl, _⟩, ⟨_, _, rfl, ⟨rfl, _⟩, ⟨_, _, rfl, ⟨rfl, _⟩, ⟨_, _, rfl, ⟨_, _, rfl, ⟨rfl, _⟩, ⟨_, _, rfl, ⟨rfl, _⟩, ⟨_, _, rfl, ⟨_, _, rfl, ⟨rfl, _⟩, ⟨A3, c3, rfl, p3, q3, s3⟩⟩, ⟨_, _, rfl, ⟨rfl, _⟩, ⟨A5, c5, rfl, p5, q5, s5⟩⟩⟩⟩⟩, ⟨rfl, _⟩⟩⟩⟩⟩⟩⟩⟩⟩⟩⟩⟩ := h0
 have hm13 := hm0.know (slR A1 c1 T_api_Pair.rep x0.Attrs) (fun _ h => h) (hm0.in0 hc0 ⟨p1, q1, s1⟩)
 replace hc0 := hc0.snoc (r := slR A1 c1 T_api_Pair.rep x0.Attrs) (fun _ h => h)
 have hm14 := hm13.know (slR A3 c3 w64R x0.Hist.Pos.Counts) (fun _ h => h) (hm13.in0 hc0 ⟨p3, q3, s3⟩)
 replace hc0 := hc0.snoc (r := slR A3 c3 w64R x0.Hist.Pos.Counts) (fun _ h => h)
 have hm15 := hm14.know (slR A5 c5 w64R x0.Hist.Neg.Counts) (fun _ h => h) (hm14.in0 hc0 ⟨p5, q5, s5⟩)
 replace hc0 := hc0.snoc (r := slR A5 c5 w64R x0.Hist.Neg.Counts) (fun _ h => h)
 obtain ⟨_, _, rfl, ⟨rfl, _⟩, ⟨_, _, rfl, ⟨A7, c7, rfl, p7, q7, s7⟩, ⟨_, _, rfl, ⟨rfl, _⟩, ⟨_, _, rfl, ⟨rfl, _⟩, ⟨_, _, rfl, ⟨rfl, _⟩, ⟨_, _, rfl, ⟨rfl, _⟩, ⟨_, _, rfl, ⟨rfl, _⟩, ⟨_, _, rfl, ⟨rfl, _⟩, ⟨_, _, rfl, ⟨rfl, _⟩, ⟨_, _, rfl, ⟨rfl, _⟩, ⟨_, _, rfl, ⟨_, _, rfl, ⟨rfl, _⟩, ⟨_, _, rfl, ⟨rfl, _⟩, ⟨_, _, rfl, ⟨_, _, rfl, ⟨rfl, _⟩, ⟨A9, c9, rfl, p9, q9, s9⟩⟩, ⟨_, _, rfl, ⟨rfl, _⟩, ⟨A11, c11, rfl, p11, q11, s11⟩⟩⟩⟩⟩, ⟨rfl, _⟩⟩⟩⟩⟩⟩⟩⟩⟩⟩⟩⟩ := h1
 have hm16 := hm15.know (slR A7 c7 T_api_Pair.rep x1.Attrs) (fun _ h => h) (hm15.in0 hc0 ⟨p7, q7, s7⟩)
 replace hc0 := hc0.snoc (r := slR A7 c7 T_api_Pair.rep x1.Attrs) (fun _ h => h)
 have hm17 := hm16.know (slR A9 c9 w64R x1.Hist.Pos.Counts) (fun _ h => h) (hm16.in0 hc0 ⟨p9, q9, s9⟩)
 replace hc0 := hc0.snoc (r := slR A9 c9 w64R x1.Hist.Pos.Counts) (fun _ h => h)
 have hm18 := hm17.know (slR A11 c11 w64R x1.Hist.Neg.Counts) (fun _ h => h) (hm17.in0 hc0 ⟨p11, q11, s11⟩)
 replace hc0 := hc0.snoc (r := slR A11 c11 w64R x1.Hist.Neg.Counts) (fun _ h => h)
 refine Rn.enter Tryz.func11 rfl rfl (Nat.le_of_ble_eq_true rfl) ?_
 refine gg 2 rfl (Rn.box rfl rfl rfl rfl rfl ?_)
 intro b19 w19 hb19 m19 e19
 have hm21 := (hm18.addBox hb19 e19 m19).nf [_, _, _, _, _, _, boxR _ _ [_, _, _, _, _, _, _, _, _, _, _, _, _, _, _, _, _]] rfl
 refine Rn.box rfl rfl rfl rfl rfl ?_
 intro b22 w22 hb22 m22 e22
 have hm24 := (hm21.addBox hb22 e22 m22).nf [_, _, _, _, _, _, _, boxR _ _ [_, _, _, _, _, _, _, _, _, _, _, _, _, _, _, _, _]] rfl
 refine gg 4 rfl ?_
 obtain ⟨j1, hj1, hM⟩ := jnE hM
 refine Rn.joinG (r := r) (G := Bool) (fun g => [(2, .pointer (some ⟨b19, 0, none⟩)), (3, .pointer (some ⟨b22, 0, none⟩)), (19, .bool (g))]) (fun g w' => Hp Z0 No w w' [slR A1 c1 T_api_Pair.rep x0.Attrs, slR A3 c3 w64R x0.Hist.Pos.Counts, slR A5 c5 w64R x0.Hist.Neg.Counts, slR A7 c7 T_api_Pair.rep x1.Attrs, slR A9 c9 w64R x1.Hist.Pos.Counts, slR A11 c11 w64R x1.Hist.Neg.Counts, boxR b19 30 [Str (x0.Name), .slice A1 (x0.Attrs).length c1, .int .i64 (x0.Kind), .int .i64 (x0.Temp), .bool (x0.Mono), .int .i64 (x0.Start), .int .i64 (x0.Time), .int .i64 (x0.Int_), .int .u64 (((x0.Re).toNat : Nat) : Int), .int .u64 (((x0.Im).toNat : Nat) : Int), .int .i64 (x0.Hist.Scale), .int .u64 (((x0.Hist.Zero).toNat : Nat) : Int), .int .i64 (x0.Hist.Pos.Offset), .slice A3 (x0.Hist.Pos.Counts).length c3, .int .i64 (x0.Hist.Neg.Offset), .slice A5 (x0.Hist.Neg.Counts).length c5, .int .i64 (x0.Flags)], boxR b22 30 [Str (x1.Name), .slice A7 (x1.Attrs).length c7, .int .i64 (x1.Kind), .int .i64 (x1.Temp), .bool (x1.Mono), .int .i64 (x1.Start), .int .i64 (x1.Time), .int .i64 (x1.Int_), .int .u64 (((x1.Re).toNat : Nat) : Int), .int .u64 (((x1.Im).toNat : Nat) : Int), .int .i64 (x1.Hist.Scale), .int .u64 (((x1.Hist.Zero).toNat : Nat) : Int), .int .i64 (x1.Hist.Pos.Offset), .slice A9 (x1.Hist.Pos.Counts).length c9, .int .i64 (x1.Hist.Neg.Offset), .slice A11 (x1.Hist.Neg.Counts).length c11, .int .i64 (x1.Flags)]]) (fun g => j1 g) ?_ ?_
 ·subst hj1
  clear hM
  rintro y25 w26 hm26 hM
  try dsimp only at hM
  refine Rn.condS rfl (fun h27 => ?_) (fun h27 => ?_)
  ·replace hM := iteT h27 hM
   refine gg 4 rfl ?_
   refine Rn.retG1 Tryz.func11 rfl (rvT rfl) ?_
   obtain rfl := someE hM
   exact ⟨rfl, hm26.pick [] rfl (by decide)⟩
  ·replace hM := iteFB hM h27
   refine gg 5 rfl (Rn.q rfl (V.ldB Tryz.isAgg3 rfl (hm26.get 6 rfl) rfl) (gg 1 rfl (Rn.q rfl (V.ldB Tryz.isAgg3 rfl (hm26.get 7 rfl) rfl) (gg 2 rfl ?_))))
   refine Rn.cutR [12, 13, 14, 15, 16, 17, 18, 19, 20, 21, 22, 23, 24, 25, 26, 27, 28, 29, 30, 31, 32] [(2, .pointer (some ⟨b19, 0, none⟩)), (3, .pointer (some ⟨b22, 0, none⟩)), (31, .bool (decide ((x0.Kind ≠ x1.Kind) ∨ (x0.Temp ≠ x1.Temp))))] (fun hk28 => ?_) ?_
   ·refine Rn.partD (t := 25) rfl (fun h29 => ?_) (fun h29 => ?_)
    ·refine gg 6 rfl ?_
     refine hk28 _ ?_
     exact Sub.cons rfl (Sub.cons rfl (Sub.cons (lkv _ rfl (by first | exact andT h29 | exact andF h29 | exact orT h29 | exact orF h29 | exact nandF h29 | exact nandT h29 | exact norT h29 | exact norF h29 | (simp [h29]; done) | grind)) (Sub.nil _)))
    ·refine gg 1 rfl (Rn.q rfl (V.ldB Tryz.isAgg3 rfl (hm26.get 6 rfl) rfl) (gg 1 rfl (Rn.q rfl (V.ldB Tryz.isAgg3 rfl (hm26.get 7 rfl) rfl) (gg 2 rfl ?_))))
     refine hk28 _ ?_
     exact Sub.cons rfl (Sub.cons rfl (Sub.cons (lkv _ rfl (by first | exact andT h29 | exact andF h29 | exact orT h29 | exact orF h29 | exact nandF h29 | exact nandT h29 | exact norT h29 | exact norF h29 | (simp [h29]; done) | grind)) (Sub.nil _)))
   refine gg 1 rfl ?_
   refine Rn.cutR [19, 20, 21, 22, 23, 24, 25, 26, 27, 28, 29, 30, 31, 32] [(2, .pointer (some ⟨b19, 0, none⟩)), (3, .pointer (some ⟨b22, 0, none⟩)), (38, .bool (decide (((x0.Kind ≠ x1.Kind) ∨ (x0.Temp ≠ x1.Temp)) ∨ (x0.Mono ≠ x1.Mono))))] (fun hk30 => ?_) ?_
   ·refine Rn.partD (t := 32) rfl (fun h31 => ?_) (fun h31 => ?_)
    ·refine gg 6 rfl ?_
     refine hk30 _ ?_
     exact Sub.cons rfl (Sub.cons rfl (Sub.cons (lkv _ rfl (by first | exact andT h31 | exact andF h31 | exact orT h31 | exact orF h31 | exact nandF h31 | exact nandT h31 | exact norT h31 | exact norF h31 | (simp [h31]; done) | grind)) (Sub.nil _)))
    ·refine gg 1 rfl (Rn.q rfl (V.ldB Tryz.isAgg4 rfl (hm26.get 6 rfl) rfl) (gg 1 rfl (Rn.q rfl (V.ldB Tryz.isAgg4 rfl (hm26.get 7 rfl) rfl) (Rn.q rfl (V.neqB Tryz.underlying4 rfl rfl) (gg 1 rfl ?_)))))
     refine hk30 _ ?_
     exact Sub.cons rfl (Sub.cons rfl (Sub.cons (lkv _ rfl (by first | exact andT h31 | exact andF h31 | exact orT h31 | exact orF h31 | exact nandF h31 | exact nandT h31 | exact norT h31 | exact norF h31 | (simp [h31]; done) | grind)) (Sub.nil _)))
   refine gg 1 rfl ?_
   refine Rn.cutR [26, 27, 28, 29, 30, 31, 32] [(2, .pointer (some ⟨b19, 0, none⟩)), (3, .pointer (some ⟨b22, 0, none⟩)), (45, .bool (decide ((((x0.Kind ≠ x1.Kind) ∨ (x0.Temp ≠ x1.Temp)) ∨ (x0.Mono ≠ x1.Mono)) ∨ (x0.Start ≠ x1.Start))))] (fun hk32 => ?_) ?_
   ·refine Rn.partD (t := 39) rfl (fun h33 => ?_) (fun h33 => ?_)
    ·refine gg 6 rfl ?_
     refine hk32 _ ?_
     exact Sub.cons rfl (Sub.cons rfl (Sub.cons (lkv _ rfl (by first | exact andT h33 | exact andF h33 | exact orT h33 | exact orF h33 | exact nandF h33 | exact nandT h33 | exact norT h33 | exact norF h33 | (simp [h33]; done) | grind)) (Sub.nil _)))
    ·refine gg 1 rfl (Rn.q rfl (V.ldB Tryz.isAgg3 rfl (hm26.get 6 rfl) rfl) (gg 1 rfl (Rn.q rfl (V.ldB Tryz.isAgg3 rfl (hm26.get 7 rfl) rfl) (gg 2 rfl ?_))))
     refine hk32 _ ?_
     exact Sub.cons rfl (Sub.cons rfl (Sub.cons (lkv _ rfl (by first | exact andT h33 | exact andF h33 | exact orT h33 | exact orF h33 | exact nandF h33 | exact nandT h33 | exact norT h33 | exact norF h33 | (simp [h33]; done) | grind)) (Sub.nil _)))
   refine gg 1 rfl ?_
   refine Rn.cutR [] [(2, .pointer (some ⟨b19, 0, none⟩)), (3, .pointer (some ⟨b22, 0, none⟩)), (52, .bool (decide (((((x0.Kind ≠ x1.Kind) ∨ (x0.Temp ≠ x1.Temp)) ∨ (x0.Mono ≠ x1.Mono)) ∨ (x0.Start ≠ x1.Start)) ∨ (x0.Time ≠ x1.Time))))] (fun hk34 => ?_) ?_
   ·refine Rn.partD (t := 46) rfl (fun h35 => ?_) (fun h35 => ?_)
    ·refine gg 6 rfl ?_
     refine hk34 _ ?_
     exact Sub.cons rfl (Sub.cons rfl (Sub.cons (lkv _ rfl (by first | exact andT h35 | exact andF h35 | exact orT h35 | exact orF h35 | exact nandF h35 | exact nandT h35 | exact norT h35 | exact norF h35 | (simp [h35]; done) | grind)) (Sub.nil _)))
    ·refine gg 1 rfl (Rn.q rfl (V.ldB Tryz.isAgg3 rfl (hm26.get 6 rfl) rfl) (gg 1 rfl (Rn.q rfl (V.ldB Tryz.isAgg3 rfl (hm26.get 7 rfl) rfl) (gg 2 rfl ?_))))
     refine hk34 _ ?_
     exact Sub.cons rfl (Sub.cons rfl (Sub.cons (lkv _ rfl (by first | exact andT h35 | exact andF h35 | exact orT h35 | exact orF h35 | exact nandF h35 | exact nandT h35 | exact norT h35 | exact norF h35 | (simp [h35]; done) | grind)) (Sub.nil _)))
   refine gg 1 rfl ?_
   refine Rn.condD rfl (fun h36 => ?_) (fun h36 => ?_)
   ·replace hM := iteT h36 hM
    refine gg 4 rfl ?_
    refine Rn.retG1 Tryz.func11 rfl (rvT rfl) ?_
    obtain rfl := someE hM
    exact ⟨rfl, hm26.pick [] rfl (by decide)⟩
   ·replace hM := iteF h36 hM
    refine gg 4 rfl (Rn.q rfl (V.ldB Tryz.isAgg3 rfl (hm26.get 6 rfl) rfl) (gg 1 rfl (Rn.q rfl (V.ldB Tryz.isAgg3 rfl (hm26.get 7 rfl) rfl) (gg 2 rfl ?_))))
    refine Rn.cutR [12, 13, 14, 15, 16, 17, 18, 19, 20, 21, 22, 23, 24, 25, 26, 27, 28, 29, 30, 31, 32, 33] [(2, .pointer (some ⟨b19, 0, none⟩)), (3, .pointer (some ⟨b22, 0, none⟩)), (64, .bool (decide ((x0.Int_ = x1.Int_) ∧ (((x0.Re).toNat : Int) = ((x1.Re).toNat : Int)))))] (fun hk37 => ?_) ?_
    ·refine Rn.partD (t := 58) rfl (fun h38 => ?_) (fun h38 => ?_)
     ·refine gg 1 rfl (Rn.q rfl (V.ldB Tryz.isAgg23 rfl (hm26.get 6 rfl) rfl) (gg 1 rfl (Rn.q rfl (V.ldB Tryz.isAgg23 rfl (hm26.get 7 rfl) rfl) (Rn.q rfl (V.eql rfl rfl) (gg 1 rfl ?_)))))
      refine hk37 _ ?_
      exact Sub.cons rfl (Sub.cons rfl (Sub.cons (lkv _ rfl (by first | exact andT h38 | exact andF h38 | exact orT h38 | exact orF h38 | exact nandF h38 | exact nandT h38 | exact norT h38 | exact norF h38 | (simp [h38]; done) | grind)) (Sub.nil _)))
     ·refine gg 6 rfl ?_
      refine hk37 _ ?_
      exact Sub.cons rfl (Sub.cons rfl (Sub.cons (lkv _ rfl (by first | exact andT h38 | exact andF h38 | exact orT h38 | exact orF h38 | exact nandF h38 | exact nandT h38 | exact norT h38 | exact norF h38 | (simp [h38]; done) | grind)) (Sub.nil _)))
    refine gg 1 rfl ?_
    refine Rn.cutR [19, 20, 21, 22, 23, 24, 25, 26, 27, 28, 29, 30, 31, 32, 33] [(2, .pointer (some ⟨b19, 0, none⟩)), (3, .pointer (some ⟨b22, 0, none⟩)), (71, .bool (decide (((x0.Int_ = x1.Int_) ∧ (((x0.Re).toNat : Int) = ((x1.Re).toNat : Int))) ∧ (((x0.Im).toNat : Int) = ((x1.Im).toNat : Int)))))] (fun hk39 => ?_) ?_
    ·refine Rn.partD (t := 65) rfl (fun h40 => ?_) (fun h40 => ?_)
     ·refine gg 1 rfl (Rn.q rfl (V.ldB Tryz.isAgg23 rfl (hm26.get 6 rfl) rfl) (gg 1 rfl (Rn.q rfl (V.ldB Tryz.isAgg23 rfl (hm26.get 7 rfl) rfl) (Rn.q rfl (V.eql rfl rfl) (gg 1 rfl ?_)))))
      refine hk39 _ ?_
      exact Sub.cons rfl (Sub.cons rfl (Sub.cons (lkv _ rfl (by first | exact andT h40 | exact andF h40 | exact orT h40 | exact orF h40 | exact nandF h40 | exact nandT h40 | exact norT h40 | exact norF h40 | (simp [h40]; done) | grind)) (Sub.nil _)))
     ·refine gg 6 rfl ?_
      refine hk39 _ ?_
      exact Sub.cons rfl (Sub.cons rfl (Sub.cons (lkv _ rfl (by first | exact andT h40 | exact andF h40 | exact orT h40 | exact orF h40 | exact nandF h40 | exact nandT h40 | exact norT h40 | exact norF h40 | (simp [h40]; done) | grind)) (Sub.nil _)))
    refine gg 1 rfl ?_
    refine Rn.cutR [26, 27, 28, 29, 30, 31, 32, 33] [(2, .pointer (some ⟨b19, 0, none⟩)), (3, .pointer (some ⟨b22, 0, none⟩)), (78, .bool (decide ((((x0.Int_ = x1.Int_) ∧ (((x0.Re).toNat : Int) = ((x1.Re).toNat : Int))) ∧ (((x0.Im).toNat : Int) = ((x1.Im).toNat : Int))) ∧ (x0.Flags = x1.Flags))))] (fun hk41 => ?_) ?_
    ·refine Rn.partD (t := 72) rfl (fun h42 => ?_) (fun h42 => ?_)
     ·refine gg 1 rfl (Rn.q rfl (V.ldB Tryz.isAgg3 rfl (hm26.get 6 rfl) rfl) (gg 1 rfl (Rn.q rfl (V.ldB Tryz.isAgg3 rfl (hm26.get 7 rfl) rfl) (gg 2 rfl ?_))))
      refine hk41 _ ?_
      exact Sub.cons rfl (Sub.cons rfl (Sub.cons (lkv _ rfl (by first | exact andT h42 | exact andF h42 | exact orT h42 | exact orF h42 | exact nandF h42 | exact nandT h42 | exact norT h42 | exact norF h42 | (simp [h42]; done) | grind)) (Sub.nil _)))
     ·refine gg 6 rfl ?_
      refine hk41 _ ?_
      exact Sub.cons rfl (Sub.cons rfl (Sub.cons (lkv _ rfl (by first | exact andT h42 | exact andF h42 | exact orT h42 | exact orF h42 | exact nandF h42 | exact nandT h42 | exact norT h42 | exact norF h42 | (simp [h42]; done) | grind)) (Sub.nil _)))
    refine gg 1 rfl ?_
    obtain ⟨j2, hj2, hM⟩ := jnE hM
    refine Rn.joinR (r := r) (G := Bool) [33] (fun g => [(85, .bool (g))]) (fun g w' => Hp Z0 No w w' [slR A1 c1 T_api_Pair.rep x0.Attrs, slR A3 c3 w64R x0.Hist.Pos.Counts, slR A5 c5 w64R x0.Hist.Neg.Counts, slR A7 c7 T_api_Pair.rep x1.Attrs, slR A9 c9 w64R x1.Hist.Pos.Counts, slR A11 c11 w64R x1.Hist.Neg.Counts, boxR b19 30 [Str (x0.Name), .slice A1 (x0.Attrs).length c1, .int .i64 (x0.Kind), .int .i64 (x0.Temp), .bool (x0.Mono), .int .i64 (x0.Start), .int .i64 (x0.Time), .int .i64 (x0.Int_), .int .u64 (((x0.Re).toNat : Nat) : Int), .int .u64 (((x0.Im).toNat : Nat) : Int), .int .i64 (x0.Hist.Scale), .int .u64 (((x0.Hist.Zero).toNat : Nat) : Int), .int .i64 (x0.Hist.Pos.Offset), .slice A3 (x0.Hist.Pos.Counts).length c3, .int .i64 (x0.Hist.Neg.Offset), .slice A5 (x0.Hist.Neg.Counts).length c5, .int .i64 (x0.Flags)], boxR b22 30 [Str (x1.Name), .slice A7 (x1.Attrs).length c7, .int .i64 (x1.Kind), .int .i64 (x1.Temp), .bool (x1.Mono), .int .i64 (x1.Start), .int .i64 (x1.Time), .int .i64 (x1.Int_), .int .u64 (((x1.Re).toNat : Nat) : Int), .int .u64 (((x1.Im).toNat : Nat) : Int), .int .i64 (x1.Hist.Scale), .int .u64 (((x1.Hist.Zero).toNat : Nat) : Int), .int .i64 (x1.Hist.Pos.Offset), .slice A9 (x1.Hist.Pos.Counts).length c9, .int .i64 (x1.Hist.Neg.Offset), .slice A11 (x1.Hist.Neg.Counts).length c11, .int .i64 (x1.Flags)]]) (fun g => j2 g) ?_ ?_
    ·subst hj2
     clear hM
     rintro y43 w44 hm44 hM
     try dsimp only at hM
     refine gg 2 rfl ?_
     refine Rn.retG1 Tryz.func11 rfl (rvT rfl) ?_
     obtain rfl := someE hM
     exact ⟨rfl, hm44.pick [] rfl (by decide)⟩
    intro hk2
    clear hj2
    refine Rn.partD (t := 79) rfl (fun h45 => ?_) (fun h45 => ?_)
    ·replace hM := iteT h45 hM
     refine gg 1 rfl (Rn.q rfl (V.ldBA [_, _, _, _, _, _] Tryz.isAgg28 Tryz.sizeOf28 rfl (hm26.get 6 rfl) rfl rfl) (gg 1 rfl (Rn.q rfl (V.ldBA [_, _, _, _, _, _] Tryz.isAgg28 Tryz.sizeOf28 rfl (hm26.get 7 rfl) rfl rfl) ?_)))
     obtain ⟨p46, e46, hM⟩ := bindE hM
     refine Rn.cl ck43 rfl rfl rfl rfl (m_limnographref08_Same_sim (Z0 := All) e46 (show T_api_Hist.rep.rel All _ _ _ from ⟨_, _, rfl, ⟨rfl, trivial⟩, ⟨_, _, rfl, ⟨rfl, trivial⟩, ⟨_, _, rfl, ⟨_, _, rfl, ⟨rfl, trivial⟩, ⟨_, _, rfl, (slR_all (hm26.get 1 rfl)).1, (slR_all (hm26.get 1 rfl)).2.1, (slR_all (hm26.get 1 rfl)).2.2⟩⟩, ⟨_, _, rfl, ⟨rfl, trivial⟩, ⟨_, _, rfl, (slR_all (hm26.get 2 rfl)).1, (slR_all (hm26.get 2 rfl)).2.1, (slR_all (hm26.get 2 rfl)).2.2⟩⟩⟩⟩⟩) (show T_api_Hist.rep.rel All _ _ _ from ⟨_, _, rfl, ⟨rfl, trivial⟩, ⟨_, _, rfl, ⟨rfl, trivial⟩, ⟨_, _, rfl, ⟨_, _, rfl, ⟨rfl, trivial⟩, ⟨_, _, rfl, (slR_all (hm26.get 4 rfl)).1, (slR_all (hm26.get 4 rfl)).2.1, (slR_all (hm26.get 4 rfl)).2.2⟩⟩, ⟨_, _, rfl, ⟨rfl, trivial⟩, ⟨_, _, rfl, (slR_all (hm26.get 5 rfl)).1, (slR_all (hm26.get 5 rfl)).2.1, (slR_all (hm26.get 5 rfl)).2.2⟩⟩⟩⟩⟩) :) ?_
     rintro _ w46 ⟨rfl, hq46⟩
     refine ⟨_, rfl, ?_⟩
     have hm47 := hm26.call0 hq46
     refine gg 1 rfl ?_
     exact hk2 p46 _ _ (Sub.cons rfl (Sub.nil _)) (hm47.pick [0, 1, 2, 3, 4, 5, 6, 7] rfl (by decide)) hM
    ·replace hM := iteF h45 hM
     refine gg 6 rfl ?_
     exact hk2 false _ _ (Sub.cons rfl (Sub.nil _)) (hm26.pick [0, 1, 2, 3, 4, 5, 6, 7] rfl (by decide)) hM
 intro hk1
 clear hj1
 refine Rn.drawH rfl hm24 ?_
 intro w48 hm48
 refine dd [0] (by kernel_rfl) rfl rfl ?_
 refine RH.take 1 (by kernel_rfl) rfl rfl rfl rfl (fun w' hDr => V.ldB Tryz.isAgg9 rfl ((hm48.ext hDr).get 6 rfl) rfl) ?_
 refine dd [2] (by kernel_rfl) rfl rfl ?_
 refine RH.here fun hS3 => RH.one 3 (by kernel_rfl) rfl rfl rfl rfl (V.ldB Tryz.isAgg9 rfl (hm48.get 7 rfl) rfl) hS3 ?_
 refine RH.here fun hS4 => RH.one 4 (by kernel_rfl) rfl rfl rfl rfl (V.neqS rfl rfl) hS4 ?_
 refine dd [5] (by kernel_rfl) rfl rfl ?_
 refine RH.partD (t := 10) rfl (fun h49 => ?_) (fun h49 => ?_)
 ·replace hM := iteT h49 hM
  refine dd [6, 7, 8, 9, 10, 11, 12, 13, 14] (by kernel_rfl) rfl rfl ?_
  refine RH.doneP (by kernel_rfl) ?_
  exact hk1 true _ _ (Sub.cons rfl (Sub.cons rfl (Sub.cons rfl (Sub.nil _)))) (hm48.pick [0, 1, 2, 3, 4, 5, 6, 7] rfl (by decide)) hM
 ·replace hM := iteF h49 hM
  refine dd [6] (by kernel_rfl) rfl rfl ?_
  refine RH.take 7 (by kernel_rfl) rfl rfl rfl rfl (fun w' hDr => V.ldB Tryz.isAgg22 rfl ((hm48.ext hDr).get 6 rfl) rfl) ?_
  refine dd [9] (by kernel_rfl) rfl rfl ?_
  refine RH.take 10 (by kernel_rfl) rfl rfl rfl rfl (fun w' hDr => V.ldB Tryz.isAgg22 rfl ((hm48.ext hDr).get 7 rfl) rfl) ?_
  obtain ⟨p50, e50, hM⟩ := bindE hM
  refine RH.cl ck15 8 (by kernel_rfl) rfl rfl rfl rfl (m_limnographref11_Sorted_sim (Z0 := All) e50 (slR_all (hm48.get 0 rfl)) :) ?_
  rintro _ w50 ⟨A50_0_0, c50_0_0, rfl, hq50⟩
  refine ⟨_, rfl, ((Ext.refl _).trans hq50.fr), ?_⟩
  have hm52 := hm48.callF (flC (ownR_flat T_api_Pair.flat _ _ _ _) fl0) hq50
  obtain ⟨p53, e53, hM⟩ := bindE hM
  refine RH.cl ck15 11 (by kernel_rfl) rfl rfl rfl rfl (m_limnographref11_Sorted_sim (Z0 := All) e53 (slR_all (hm52.get 3 rfl)) :) ?_
  rintro _ w53 ⟨A53_0_0, c53_0_0, rfl, hq53⟩
  refine ⟨_, rfl, (((Ext.refl _).trans hq50.fr).trans hq53.fr), ?_⟩
  have hm55 := hm52.callF (flC (ownR_flat T_api_Pair.flat _ _ _ _) fl0) hq53
  obtain ⟨p56, e56, hM⟩ := bindE hM
  refine RH.cl ck14 12 (by kernel_rfl) rfl rfl rfl rfl (m_limnographref11_Same_sim (Z0 := All) e56 (own_slR (hm55.get 8 rfl)) (own_slR (hm55.get 9 rfl)) :) ?_
  rintro _ w56 ⟨rfl, hq56⟩
  refine ⟨_, rfl, ((((Ext.refl _).trans hq50.fr).trans hq53.fr).trans hq56.fr), ?_⟩
  have hm57 := hm55.call0 hq56
  refine RH.here fun hS13 => RH.one 13 (by kernel_rfl) rfl rfl rfl rfl (V.notB rfl) hS13 ?_
  refine dd [14] (by kernel_rfl) rfl rfl ?_
  refine RH.doneP (by kernel_rfl) ?_
  exact hk1 (!p56) _ _ (Sub.cons rfl (Sub.cons rfl (Sub.cons rfl (Sub.nil _)))) (hm57.pick [0, 1, 2, 3, 4, 5, 6, 7] rfl (by decide)) hM

theorem m_slices_Equal_api_Pair_api_Pair_sim {Z0 : Nat → Prop} {w : World} {A0 : Option Addr} {c0 : Nat} {x0 : (List T_api_Pair)} {A1 : Option Addr} {c1 : Nat} {x1 : (List T_api_Pair)} {r : Bool} (hM : m_slices_Equal_api_Pair_api_Pair x0 x1 = some r) (f0 : (slR A0 c0 T_api_Pair.rep x0).H Z0 w) (f1 : (slR A1 c1 T_api_Pair.rep x1).H Z0 w) :
    Calls Tryz.prog 44 #[.slice A0 (x0).length c0, .slice A1 (x1).length c1] w fun x w' => x = .returned (.bool (r)) ∧ Hp Z0 No w w' [] := by
 have hm0 := Hp.nil Z0 No w
 have hc0 := Calm.nil
 have hm3 := hm0.know (slR A0 c0 T_api_Pair.rep x0) (fun _ h => h) (hm0.in0 hc0 f0)
 replace hc0 := hc0.snoc (r := slR A0 c0 T_api_Pair.rep x0) (fun _ h => h)
 have hm4 := hm3.know (slR A1 c1 T_api_Pair.rep x1) (fun _ h => h) (hm3.in0 hc0 f1)
 replace hc0 := hc0.snoc (r := slR A1 c1 T_api_Pair.rep x1) (fun _ h => h)
 refine Rn.enter Tryz.func44 rfl rfl (Nat.le_of_ble_eq_true rfl) ?_
 refine gg 8 rfl (Rn.q rfl (V.lenV Tryz.underlying22 rfl) (gg 1 rfl (Rn.q rfl (V.lenV Tryz.underlying22 rfl) (gg 2 rfl ?_))))
 refine Rn.condD rfl (fun h5 => ?_) (fun h5 => ?_)
 ·replace hM := iteT h5 hM
  refine gg 4 rfl ?_
  refine Rn.retG1 Tryz.func44 rfl (rvT rfl) ?_
  obtain rfl := someE hM
  exact ⟨rfl, hm4.pick [] rfl (by decide)⟩
 ·replace hM := iteF h5 hM
  refine gg 5 rfl (Rn.q rfl (V.lenV Tryz.underlying22 rfl) (gg 2 rfl ?_))
  obtain ⟨j1, hj1, hM⟩ := jnE hM
  refine Rn.joinG (r := r) (G := Unit) (fun g => []) (fun g w' => Hp Z0 No w w' []) (fun g => j1 ()) ?_ ?_
  ·subst hj1
   clear hM
   rintro _ w6 hm6 hM
   try dsimp only at hM
   refine gg 4 rfl ?_
   refine Rn.retG1 Tryz.func44 rfl (rvT rfl) ?_
   obtain rfl := someE hM
   exact ⟨rfl, hm6.pick [] rfl (by decide)⟩
  intro hk1
  clear hj1
  refine gg 1 rfl ?_
  refine Rn.loopF (G := Int) (fun g => [(0, .slice A0 (x0).length c0), (1, .slice A1 (x1).length c1), (12, .int .i64 ((x0.length : Int))), (13, .int .i64 (g))]) (fun g w' => Hp Z0 No w w' [slR A0 c0 T_api_Pair.rep x0, slR A1 c1 T_api_Pair.rep x1]) (fun n g => m_slices_Equal_api_Pair_api_Pair_L1 x0 x1 j1 n g) fuel 0 (Sub.cons rfl (Sub.cons rfl (Sub.cons rfl (Sub.cons rfl (Sub.nil _))))) (hm4.pick [0, 1] rfl (by decide)) hM (fun _ => rfl) ?_
  clear hM
  rintro m8 y7 w8 hm8 hM hn8
  replace hM : m_slices_Equal_api_Pair_api_Pair_L1 x0 x1 j1 (m8 + 1) y7 = some r := hM
  rw [m_slices_Equal_api_Pair_api_Pair_L1] at hM
  refine gg 5 rfl ?_
  refine Rn.condD rfl (fun h9 => ?_) (fun h9 => ?_)
  ·replace hM := iteT h9 hM
   refine gg 9 rfl ?_
   refine Rn.drawP rfl hm8 ?_
   intro w10 hm10
   refine dd [0, 1] (by kernel_rfl) rfl rfl ?_
   obtain ⟨z11, e11, hM⟩ := bindE hM
   obtain ⟨kk11, ke11, kz11, kl11⟩ := idxE e11
   obtain ⟨b11, o11, vs11, hA11, hD11, hR11, hrel11⟩ := Hp.at hm10 0 rfl kz11
   obtain ⟨_, _, rfl, ⟨rfl, _⟩, ⟨rfl, _⟩⟩ := hrel11
   have hm13 := Hp.knowL [rdR b11 (o11 + kk11 * 2) [Str (z11.Key), Str (z11.Val)]] _ hm10 (knC (fun _ h => h) ⟨fun _ => hD11, hR11⟩ kn0)
   refine RH.takeP 2 (by kernel_rfl) rfl rfl rfl rfl (V.ixA' hA11 kk11 Tryz.underlying22 Tryz.sizeOf42 rfl rfl ke11 kl11) ?_
   refine RH.takeP 3 (by kernel_rfl) rfl rfl rfl rfl (V.ldA (vs := [_, _]) Tryz.isAgg42 Tryz.sizeOf42 rfl (Rd.pre (hm13.get 2 rfl).2 2) rfl) ?_
   refine dd [4, 5] (by kernel_rfl) rfl rfl ?_
   obtain ⟨z14, e14, hM⟩ := bindE hM
   obtain ⟨kk14, ke14, kz14, kl14⟩ := idxE e14
   obtain ⟨b14, o14, vs14, hA14, hD14, hR14, hrel14⟩ := Hp.at hm13 1 rfl kz14
   obtain ⟨_, _, rfl, ⟨rfl, _⟩, ⟨rfl, _⟩⟩ := hrel14
   have hm16 := Hp.knowL [rdR b14 (o14 + kk14 * 2) [Str (z14.Key), Str (z14.Val)]] _ hm13 (knC (fun _ h => h) ⟨fun _ => hD14, hR14⟩ kn0)
   refine RH.takeP 6 (by kernel_rfl) rfl rfl rfl rfl (V.ixA' hA14 kk14 Tryz.underlying22 Tryz.sizeOf42 rfl rfl ke14 kl14) ?_
   refine RH.takeP 7 (by kernel_rfl) rfl rfl rfl rfl (V.ldA (vs := [_, _]) Tryz.isAgg42 Tryz.sizeOf42 rfl (Rd.pre (hm16.get 3 rfl).2 2) rfl) ?_
   refine RH.takeP 8 (by kernel_rfl) rfl rfl rfl rfl (V.neqT Tryz.eqGuardType42 rfl rfl (eq42 _ _)) ?_
   refine RH.doneP (by kernel_rfl) ?_
   refine Rn.condD rfl (fun h17 => ?_) (fun h17 => ?_)
   ·replace hM := iteT h17 hM
    refine gg 4 rfl ?_
    refine Rn.retG1 Tryz.func44 rfl (rvT rfl) ?_
    obtain rfl := someE hM
    exact ⟨rfl, hm16.pick [] rfl (by decide)⟩
   ·replace hM := iteF h17 hM
    refine gg 6 rfl ?_
    exact hn8 (W64 (y7 + 1)) _ _ (Sub.cons rfl (Sub.cons rfl (Sub.cons rfl (Sub.cons rfl (Sub.nil _))))) (hm16.pick [0, 1] rfl (by decide)) hM
  ·replace hM := iteF h9 hM
   refine gg 1 rfl ?_
   exact hk1 () _ _ (Sub.nil _) (hm8.pick [] rfl (by decide)) hM

theorem m_slices_Equal_uint64_uint64_sim {Z0 : Nat → Prop} {w : World} {A0 : Option Addr} {c0 : Nat} {x0 : (List UInt64)} {A1 : Option Addr} {c1 : Nat} {x1 : (List UInt64)} {r : Bool} (hM : m_slices_Equal_uint64_uint64 x0 x1 = some r) (f0 : (slR A0 c0 w64R x0).H Z0 w) (f1 : (slR A1 c1 w64R x1).H Z0 w) :
    Calls Tryz.prog 91 #[.slice A0 (x0).length c0, .slice A1 (x1).length c1] w fun x w' => x = .returned (.bool (r)) ∧ Hp Z0 No w w' [] := by
 have hm0 := Hp.nil Z0 No w
 have hc0 := Calm.nil
 have hm3 := hm0.know (slR A0 c0 w64R x0) (fun _ h => h) (hm0.in0 hc0 f0)
 replace hc0 := hc0.snoc (r := slR A0 c0 w64R x0) (fun _ h => h)
 have hm4 := hm3.know (slR A1 c1 w64R x1) (fun _ h => h) (hm3.in0 hc0 f1)
 replace hc0 := hc0.snoc (r := slR A1 c1 w64R x1) (fun _ h => h)
 refine Rn.enter Tryz.func91 rfl rfl (Nat.le_of_ble_eq_true rfl) ?_
 refine gg 8 rfl (Rn.q rfl (V.lenV Tryz.underlying24 rfl) (gg 1 rfl (Rn.q rfl (V.lenV Tryz.underlying24 rfl) (gg 2 rfl ?_))))
 refine Rn.condD rfl (fun h5 => ?_) (fun h5 => ?_)
 ·replace hM := iteT h5 hM
  refine gg 4 rfl ?_
  refine Rn.retG1 Tryz.func91 rfl (rvT rfl) ?_
  obtain rfl := someE hM
  exact ⟨rfl, hm4.pick [] rfl (by decide)⟩
 ·replace hM := iteF h5 hM
  refine gg 5 rfl (Rn.q rfl (V.lenV Tryz.underlying24 rfl) (gg 2 rfl ?_))
  obtain ⟨j1, hj1, hM⟩ := jnE hM
  refine Rn.joinG (r := r) (G := Unit) (fun g => []) (fun g w' => Hp Z0 No w w' []) (fun g => j1 ()) ?_ ?_
  ·subst hj1
   clear hM
   rintro _ w6 hm6 hM
   try dsimp only at hM
   refine gg 4 rfl ?_
   refine Rn.retG1 Tryz.func91 rfl (rvT rfl) ?_
   obtain rfl := someE hM
   exact ⟨rfl, hm6.pick [] rfl (by decide)⟩
  intro hk1
  clear hj1
  refine gg 1 rfl ?_
  refine Rn.loopF (G := Int) (fun g => [(0, .slice A0 (x0).length c0), (1, .slice A1 (x1).length c1), (12, .int .i64 ((x0.length : Int))), (13, .int .i64 (g))]) (fun g w' => Hp Z0 No w w' [slR A0 c0 w64R x0, slR A1 c1 w64R x1]) (fun n g => m_slices_Equal_uint64_uint64_L1 x0 x1 j1 n g) fuel 0 (Sub.cons rfl (Sub.cons rfl (Sub.cons rfl (Sub.cons rfl (Sub.nil _))))) (hm4.pick [0, 1] rfl (by decide)) hM (fun _ => rfl) ?_
  clear hM
  rintro m8 y7 w8 hm8 hM hn8
  replace hM : m_slices_Equal_uint64_uint64_L1 x0 x1 j1 (m8 + 1) y7 = some r := hM
  rw [m_slices_Equal_uint64_uint64_L1] at hM
  refine gg 5 rfl ?_
  refine Rn.condD rfl (fun h9 => ?_) (fun h9 => ?_)
  ·replace hM := iteT h9 hM
   refine gg 9 rfl ?_
   refine Rn.drawP rfl hm8 ?_
   intro w10 hm10
   refine dd [0, 1] (by kernel_rfl) rfl rfl ?_
   obtain ⟨z11, e11, hM⟩ := bindE hM
   obtain ⟨kk11, ke11, kz11, kl11⟩ := idxE e11
   obtain ⟨b11, o11, vs11, hA11, hD11, hR11, hrel11⟩ := Hp.at hm10 0 rfl kz11
   obtain ⟨rfl, _⟩ := hrel11
   have hm13 := Hp.knowL [rdR b11 (o11 + kk11 * 1) [.int .u64 (((z11).toNat : Nat) : Int)]] _ hm10 (knC (fun _ h => h) ⟨fun _ => hD11, hR11⟩ kn0)
   refine RH.takeP 2 (by kernel_rfl) rfl rfl rfl rfl (V.ixA' hA11 kk11 Tryz.underlying24 Tryz.sizeOf23 rfl rfl ke11 kl11) ?_
   refine RH.takeP 3 (by kernel_rfl) rfl rfl rfl rfl (V.ldR0 Tryz.isAgg23 rfl (hm13.get 2 rfl).2 rfl) ?_
   refine dd [4, 5] (by kernel_rfl) rfl rfl ?_
   obtain ⟨z14, e14, hM⟩ := bindE hM
   obtain ⟨kk14, ke14, kz14, kl14⟩ := idxE e14
   obtain ⟨b14, o14, vs14, hA14, hD14, hR14, hrel14⟩ := Hp.at hm13 1 rfl kz14
   obtain ⟨rfl, _⟩ := hrel14
   have hm16 := Hp.knowL [rdR b14 (o14 + kk14 * 1) [.int .u64 (((z14).toNat : Nat) : Int)]] _ hm13 (knC (fun _ h => h) ⟨fun _ => hD14, hR14⟩ kn0)
   refine RH.takeP 6 (by kernel_rfl) rfl rfl rfl rfl (V.ixA' hA14 kk14 Tryz.underlying24 Tryz.sizeOf23 rfl rfl ke14 kl14) ?_
   refine RH.takeP 7 (by kernel_rfl) rfl rfl rfl rfl (V.ldR0 Tryz.isAgg23 rfl (hm16.get 3 rfl).2 rfl) ?_
   refine RH.takeP 8 (by kernel_rfl) rfl rfl rfl rfl (V.neq rfl rfl) ?_
   refine RH.doneP (by kernel_rfl) ?_
   refine Rn.condD rfl (fun h17 => ?_) (fun h17 => ?_)
   ·replace hM := iteT h17 hM
    refine gg 4 rfl ?_
    refine Rn.retG1 Tryz.func91 rfl (rvT rfl) ?_
    obtain rfl := someE hM
    exact ⟨rfl, hm16.pick [] rfl (by decide)⟩
   ·replace hM := iteF h17 hM
    refine gg 6 rfl ?_
    exact hn8 (W64 (y7 + 1)) _ _ (Sub.cons rfl (Sub.cons rfl (Sub.cons rfl (Sub.cons rfl (Sub.nil _))))) (hm16.pick [0, 1] rfl (by decide)) hM
  ·replace hM := iteF h9 hM
   refine gg 1 rfl ?_
   exact hk1 () _ _ (Sub.nil _) (hm8.pick [] rfl (by decide)) hM

theorem m_hist_same_sim {Z0 : Nat → Prop} {w : World} {x0 : T_api_Side} {cs0 : List Value} {x1 : T_api_Side} {cs1 : List Value} {r : Bool} (hM : m_hist_same x0 x1 = some r) (h0 : T_api_Side.rep.rel Z0 w cs0 x0) (h1 : T_api_Side.rep.rel Z0 w cs1 x1) :
    Calls Tryz.prog 78 #[.agg cs0.toArray, .agg cs1.toArray] w fun x w' => x = .returned (.bool (r)) ∧ Hp Z0 No w w' [] := by
 have hm0 := Hp.nil Z0 No w
 have hc0 := Calm.nil
 obtain ⟨_, _, rfl, ⟨rfl, _⟩, ⟨A1, c1, rfl, p1, q1, s1⟩⟩ := h0
 have hm5 := hm0.know (slR A1 c1 w64R x0.Counts) (fun _ h => h) (hm0.in0 hc0 ⟨p1, q1, s1⟩)
 replace hc0 := hc0.snoc (r := slR A1 c1 w64R x0.Counts) (fun _ h => h)
 obtain ⟨_, _, rfl, ⟨rfl, _⟩, ⟨A3, c3, rfl, p3, q3, s3⟩⟩ := h1
 have hm6 := hm5.know (slR A3 c3 w64R x1.Counts) (fun _ h => h) (hm5.in0 hc0 ⟨p3, q3, s3⟩)
 replace hc0 := hc0.snoc (r := slR A3 c3 w64R x1.Counts) (fun _ h => h)
 refine Rn.enter Tryz.func78 rfl rfl (Nat.le_of_ble_eq_true rfl) ?_
 refine gg 2 rfl (Rn.box rfl rfl rfl rfl rfl ?_)
 intro b7 w7 hb7 m7 e7
 have hm9 := (hm6.addBox hb7 e7 m7).nf [_, _, boxR _ _ [_, _]] rfl
 refine Rn.box rfl rfl rfl rfl rfl ?_
 intro b10 w10 hb10 m10 e10
 have hm12 := (hm9.addBox hb10 e10 m10).nf [_, _, _, boxR _ _ [_, _]] rfl
 refine gg 5 rfl (Rn.q rfl (V.ldB Tryz.isAgg3 rfl (hm12.get 2 rfl) rfl) (gg 1 rfl (Rn.q rfl (V.ldB Tryz.isAgg3 rfl (hm12.get 3 rfl) rfl) (gg 2 rfl ?_))))
 obtain ⟨j1, hj1, hM⟩ := jnE hM
 refine Rn.joinR (r := r) (G := Bool) [12] (fun g => [(16, .bool (g))]) (fun g w' => Hp Z0 No w w' [slR A1 c1 w64R x0.Counts, slR A3 c3 w64R x1.Counts, boxR b7 26 [.int .i64 (x0.Offset), .slice A1 (x0.Counts).length c1], boxR b10 26 [.int .i64 (x1.Offset), .slice A3 (x1.Counts).length c3]]) (fun g => j1 g) ?_ ?_
 ·subst hj1
  clear hM
  rintro y13 w14 hm14 hM
  try dsimp only at hM
  refine gg 2 rfl ?_
  refine Rn.retG1 Tryz.func78 rfl (rvT rfl) ?_
  obtain rfl := someE hM
  exact ⟨rfl, hm14.pick [] rfl (by decide)⟩
 intro hk1
 clear hj1
 refine Rn.partD (t := 10) rfl (fun h15 => ?_) (fun h15 => ?_)
 ·replace hM := iteT h15 hM
  refine gg 1 rfl (Rn.q rfl (V.ldB Tryz.isAgg24 rfl (hm12.get 2 rfl) rfl) (gg 1 rfl (Rn.q rfl (V.ldB Tryz.isAgg24 rfl (hm12.get 3 rfl) rfl) ?_)))
  obtain ⟨p16, e16, hM⟩ := bindE hM
  refine Rn.cl ck91 rfl rfl rfl rfl (m_slices_Equal_uint64_uint64_sim (Z0 := All) e16 (slR_all (hm12.get 0 rfl)) (slR_all (hm12.get 1 rfl)) :) ?_
  rintro _ w16 ⟨rfl, hq16⟩
  refine ⟨_, rfl, ?_⟩
  have hm17 := hm12.call0 hq16
  refine gg 1 rfl ?_
  exact hk1 p16 _ _ (Sub.cons rfl (Sub.nil _)) (hm17.pick [0, 1, 2, 3] rfl (by decide)) hM
 ·replace hM := iteF h15 hM
  refine gg 6 rfl ?_
  exact hk1 false _ _ (Sub.cons rfl (Sub.nil _)) (hm12.pick [0, 1, 2, 3] rfl (by decide)) hM

theorem m_hist_Same_sim {Z0 : Nat → Prop} {w : World} {x0 : T_api_Hist} {cs0 : List Value} {x1 : T_api_Hist} {cs1 : List Value} {r : Bool} (hM : m_hist_Same x0 x1 = some r) (h0 : T_api_Hist.rep.rel Z0 w cs0 x0) (h1 : T_api_Hist.rep.rel Z0 w cs1 x1) :
    Calls Tryz.prog 46 #[.agg cs0.toArray, .agg cs1.toArray] w fun x w' => x = .returned (.bool (r)) ∧ Hp Z0 No w w' [] := by
 have hm0 := Hp.nil Z0 No w
 have hc0 := Calm.nil
 obtain ⟨_, _, rfl, ⟨rfl, _⟩, ⟨_, _, rfl, ⟨rfl, _⟩, ⟨_, _, rfl, ⟨_, _, rfl, ⟨rfl, _⟩, ⟨A1, c1, rfl, p1, q1, s1⟩⟩, ⟨_, _, rfl, ⟨rfl, _⟩, ⟨A3, c3, rfl, p3, q3, s3⟩⟩⟩⟩⟩ := h0
 have hm9 := hm0.know (slR A1 c1 w64R x0.Pos.Counts) (fun _ h => h) (hm0.in0 hc0 ⟨p1, q1, s1⟩)
 replace hc0 := hc0.snoc (r := slR A1 c1 w64R x0.Pos.Counts) (fun _ h => h)
 have hm10 := hm9.know (slR A3 c3 w64R x0.Neg.Counts) (fun _ h => h) (hm9.in0 hc0 ⟨p3, q3, s3⟩)
 replace hc0 := hc0.snoc (r := slR A3 c3 w64R x0.Neg.Counts) (fun _ h => h)
 obtain ⟨_, _, rfl, ⟨rfl, _⟩, ⟨_, _, rfl, ⟨rfl, _⟩, ⟨_, _, rfl, ⟨_, _, rfl, ⟨rfl, _⟩, ⟨A5, c5, rfl, p5, q5, s5⟩⟩, ⟨_, _, rfl, ⟨rfl, _⟩, ⟨A7, c7, rfl, p7, q7, s7⟩⟩⟩⟩⟩ := h1
 have hm11 := hm10.know (slR A5 c5 w64R x1.Pos.Counts) (fun _ h => h) (hm10.in0 hc0 ⟨p5, q5, s5⟩)
 replace hc0 := hc0.snoc (r := slR A5 c5 w64R x1.Pos.Counts) (fun _ h => h)
 have hm12 := hm11.know (slR A7 c7 w64R x1.Neg.Counts) (fun _ h => h) (hm11.in0 hc0 ⟨p7, q7, s7⟩)
 replace hc0 := hc0.snoc (r := slR A7 c7 w64R x1.Neg.Counts) (fun _ h => h)
 refine Rn.enter Tryz.func46 rfl rfl (Nat.le_of_ble_eq_true rfl) ?_
 refine gg 2 rfl (Rn.box rfl rfl rfl rfl rfl ?_)
 intro b13 w13 hb13 m13 e13
 have hm15 := (hm12.addBox hb13 e13 m13).nf [_, _, _, _, boxR _ _ [_, _, _, _, _, _]] rfl
 refine Rn.box rfl rfl rfl rfl rfl ?_
 intro b16 w16 hb16 m16 e16
 have hm18 := (hm15.addBox hb16 e16 m16).nf [_, _, _, _, _, boxR _ _ [_, _, _, _, _, _]] rfl
 refine gg 5 rfl (Rn.q rfl (V.ldB Tryz.isAgg3 rfl (hm18.get 4 rfl) rfl) (gg 1 rfl (Rn.q rfl (V.ldB Tryz.isAgg3 rfl (hm18.get 5 rfl) rfl) (gg 2 rfl ?_))))
 refine Rn.cutR [12, 13, 14, 15, 16, 17, 18, 19, 20, 21, 22, 23, 24, 25, 26] [(2, .pointer (some ⟨b13, 0, none⟩)), (3, .pointer (some ⟨b16, 0, none⟩)), (16, .bool (decide ((x0.Scale = x1.Scale) ∧ (((x0.Zero).toNat : Int) = ((x1.Zero).toNat : Int)))))] (fun hk19 => ?_) ?_
 ·refine Rn.partD (t := 10) rfl (fun h20 => ?_) (fun h20 => ?_)
  ·refine gg 1 rfl (Rn.q rfl (V.ldB Tryz.isAgg23 rfl (hm18.get 4 rfl) rfl) (gg 1 rfl (Rn.q rfl (V.ldB Tryz.isAgg23 rfl (hm18.get 5 rfl) rfl) (Rn.q rfl (V.eql rfl rfl) (gg 1 rfl ?_)))))
   refine hk19 _ ?_
   exact Sub.cons rfl (Sub.cons rfl (Sub.cons (lkv _ rfl (by first | exact andT h20 | exact andF h20 | exact orT h20 | exact orF h20 | exact nandF h20 | exact nandT h20 | exact norT h20 | exact norF h20 | (simp [h20]; done) | grind)) (Sub.nil _)))
  ·refine gg 6 rfl ?_
   refine hk19 _ ?_
   exact Sub.cons rfl (Sub.cons rfl (Sub.cons (lkv _ rfl (by first | exact andT h20 | exact andF h20 | exact orT h20 | exact orF h20 | exact nandF h20 | exact nandT h20 | exact norT h20 | exact norF h20 | (simp [h20]; done) | grind)) (Sub.nil _)))
 refine gg 1 rfl ?_
 obtain ⟨j1, hj1, hM⟩ := jnE hM
 refine Rn.joinR (r := r) (G := Bool) [19, 20, 21, 22, 23, 24, 25, 26] (fun g => [(2, .pointer (some ⟨b13, 0, none⟩)), (3, .pointer (some ⟨b16, 0, none⟩)), (23, .bool (g))]) (fun g w' => Hp Z0 No w w' [slR A1 c1 w64R x0.Pos.Counts, slR A3 c3 w64R x0.Neg.Counts, slR A5 c5 w64R x1.Pos.Counts, slR A7 c7 w64R x1.Neg.Counts, boxR b13 28 [.int .i64 (x0.Scale), .int .u64 (((x0.Zero).toNat : Nat) : Int), .int .i64 (x0.Pos.Offset), .slice A1 (x0.Pos.Counts).length c1, .int .i64 (x0.Neg.Offset), .slice A3 (x0.Neg.Counts).length c3], boxR b16 28 [.int .i64 (x1.Scale), .int .u64 (((x1.Zero).toNat : Nat) : Int), .int .i64 (x1.Pos.Offset), .slice A5 (x1.Pos.Counts).length c5, .int .i64 (x1.Neg.Offset), .slice A7 (x1.Neg.Counts).length c7]]) (fun g => j1 g) ?_ ?_
 ·subst hj1
  clear hM
  rintro y21 w22 hm22 hM
  try dsimp only at hM
  refine gg 1 rfl ?_
  obtain ⟨j2, hj2, hM⟩ := jnE hM
  refine Rn.joinR (r := r) (G := Bool) [26] (fun g => [(30, .bool (g))]) (fun g w' => Hp Z0 No w w' [slR A1 c1 w64R x0.Pos.Counts, slR A3 c3 w64R x0.Neg.Counts, slR A5 c5 w64R x1.Pos.Counts, slR A7 c7 w64R x1.Neg.Counts, boxR b13 28 [.int .i64 (x0.Scale), .int .u64 (((x0.Zero).toNat : Nat) : Int), .int .i64 (x0.Pos.Offset), .slice A1 (x0.Pos.Counts).length c1, .int .i64 (x0.Neg.Offset), .slice A3 (x0.Neg.Counts).length c3], boxR b16 28 [.int .i64 (x1.Scale), .int .u64 (((x1.Zero).toNat : Nat) : Int), .int .i64 (x1.Pos.Offset), .slice A5 (x1.Pos.Counts).length c5, .int .i64 (x1.Neg.Offset), .slice A7 (x1.Neg.Counts).length c7]]) (fun g => j2 g) ?_ ?_
  ·subst hj2
   clear hM
   rintro y23 w24 hm24 hM
   try dsimp only at hM
   refine gg 2 rfl ?_
   refine Rn.retG1 Tryz.func46 rfl (rvT rfl) ?_
   obtain rfl := someE hM
   exact ⟨rfl, hm24.pick [] rfl (by decide)⟩
  intro hk2
  clear hj2
  refine Rn.part (t := 24) rfl (fun h25 => ?_) (fun h25 => ?_)
  ·replace hM := iteT h25 hM
   refine gg 1 rfl (Rn.q rfl (V.ldBA [_, _] Tryz.isAgg26 Tryz.sizeOf26 rfl (hm22.get 4 rfl) rfl rfl) (gg 1 rfl (Rn.q rfl (V.ldBA [_, _] Tryz.isAgg26 Tryz.sizeOf26 rfl (hm22.get 5 rfl) rfl rfl) ?_)))
   obtain ⟨p26, e26, hM⟩ := bindE hM
   refine Rn.cl ck78 rfl rfl rfl rfl (m_hist_same_sim (Z0 := All) e26 (show T_api_Side.rep.rel All _ _ _ from ⟨_, _, rfl, ⟨rfl, trivial⟩, ⟨_, _, rfl, (slR_all (hm22.get 1 rfl)).1, (slR_all (hm22.get 1 rfl)).2.1, (slR_all (hm22.get 1 rfl)).2.2⟩⟩) (show T_api_Side.rep.rel All _ _ _ from ⟨_, _, rfl, ⟨rfl, trivial⟩, ⟨_, _, rfl, (slR_all (hm22.get 3 rfl)).1, (slR_all (hm22.get 3 rfl)).2.1, (slR_all (hm22.get 3 rfl)).2.2⟩⟩) :) ?_
   rintro _ w26 ⟨rfl, hq26⟩
   refine ⟨_, rfl, ?_⟩
   have hm27 := hm22.call0 hq26
   refine gg 1 rfl ?_
   exact hk2 p26 _ _ (Sub.cons rfl (Sub.nil _)) (hm27.pick [0, 1, 2, 3, 4, 5] rfl (by decide)) hM
  ·replace hM := iteFB hM h25
   refine gg 6 rfl ?_
   exact hk2 false _ _ (Sub.cons rfl (Sub.nil _)) (hm22.pick [0, 1, 2, 3, 4, 5] rfl (by decide)) hM
 intro hk1
 clear hj1
 refine Rn.partD (t := 17) rfl (fun h28 => ?_) (fun h28 => ?_)
 ·replace hM := iteT h28 hM
  refine gg 1 rfl (Rn.q rfl (V.ldBA [_, _] Tryz.isAgg26 Tryz.sizeOf26 rfl (hm18.get 4 rfl) rfl rfl) (gg 1 rfl (Rn.q rfl (V.ldBA [_, _] Tryz.isAgg26 Tryz.sizeOf26 rfl (hm18.get 5 rfl) rfl rfl) ?_)))
  obtain ⟨p29, e29, hM⟩ := bindE hM
  refine Rn.cl ck78 rfl rfl rfl rfl (m_hist_same_sim (Z0 := All) e29 (show T_api_Side.rep.rel All _ _ _ from ⟨_, _, rfl, ⟨rfl, trivial⟩, ⟨_, _, rfl, (slR_all (hm18.get 0 rfl)).1, (slR_all (hm18.get 0 rfl)).2.1, (slR_all (hm18.get 0 rfl)).2.2⟩⟩) (show T_api_Side.rep.rel All _ _ _ from ⟨_, _, rfl, ⟨rfl, trivial⟩, ⟨_, _, rfl, (slR_all (hm18.get 2 rfl)).1, (slR_all (hm18.get 2 rfl)).2.1, (slR_all (hm18.get 2 rfl)).2.2⟩⟩) :) ?_
  rintro _ w29 ⟨rfl, hq29⟩
  refine ⟨_, rfl, ?_⟩
  have hm30 := hm18.call0 hq29
  refine gg 1 rfl ?_
  exact hk1 p29 _ _ (Sub.cons rfl (Sub.cons rfl (Sub.cons rfl (Sub.nil _)))) (hm30.pick [0, 1, 2, 3, 4, 5] rfl (by decide)) hM
 ·replace hM := iteF h28 hM
  refine gg 6 rfl ?_
  exact hk1 false _ _ (Sub.cons rfl (Sub.cons rfl (Sub.cons rfl (Sub.nil _)))) (hm18.pick [0, 1, 2, 3, 4, 5] rfl (by decide)) hM

theorem m_point_plain_sim {Z0 : Nat → Prop} {w : World} {x0 : T_api_Point} {cs0 : List Value} {r : T_point_what} (hM : m_point_plain x0 = some r) (h0 : T_api_Point.rep.rel Z0 w cs0 x0) :
    Calls Tryz.prog 47 #[.agg cs0.toArray] w fun x w' => x = .returned (.agg [.int .i64 (r.kind), .int .i64 (r.temp), .int .i64 (r.start), .int .i64 (r.time), .int .i64 (r.value), .int .i64 (r.flags), .bool (r.mono), .int .u64 (((r.re).toNat : Nat) : Int), .int .u64 (((r.im).toNat : Nat) : Int)].toArray) ∧ Hp Z0 No w w' [] := by
 have hm0 := Hp.nil Z0 No w
 have hc0 := Calm.nil
 obtain ⟨_, _, rfl, ⟨rfl, _⟩, ⟨_, _, rfl, ⟨A1, c1, rfl, p1, q1, s1⟩, ⟨_, _, rfl, ⟨rfl, _⟩, ⟨_, _, rfl, ⟨rfl, _⟩, ⟨_, _, rfl, ⟨rfl, _⟩, ⟨_, _, rfl, ⟨rfl, _⟩, ⟨_, _, rfl, ⟨rfl, _⟩, ⟨_, _, rfl, ⟨rfl, _⟩, ⟨_, _, rfl, ⟨rfl, _⟩, ⟨_, _, rfl, ⟨rfl, _⟩, ⟨_, _, rfl, ⟨_, _, rfl, ⟨rfl, _⟩, ⟨_, _, rfl, ⟨rfl, _⟩, ⟨_, _, rfl, ⟨_, _, rfl, ⟨rfl, _⟩, ⟨A3, c3, rfl, p3, q3, s3⟩⟩, ⟨_, _, rfl, ⟨rfl, _⟩, ⟨A5, c5, rfl, p5, q5, s5⟩⟩⟩⟩⟩, ⟨rfl, _⟩⟩⟩⟩⟩⟩⟩⟩⟩⟩⟩⟩ := h0
 have hm7 := hm0.know (slR A1 c1 T_api_Pair.rep x0.Attrs) (fun _ h => h) (hm0.in0 hc0 ⟨p1, q1, s1⟩)
 replace hc0 := hc0.snoc (r := slR A1 c1 T_api_Pair.rep x0.Attrs) (fun _ h => h)
 have hm8 := hm7.know (slR A3 c3 w64R x0.Hist.Pos.Counts) (fun _ h => h) (hm7.in0 hc0 ⟨p3, q3, s3⟩)
 replace hc0 := hc0.snoc (r := slR A3 c3 w64R x0.Hist.Pos.Counts) (fun _ h => h)
 have hm9 := hm8.know (slR A5 c5 w64R x0.Hist.Neg.Counts) (fun _ h => h) (hm8.in0 hc0 ⟨p5, q5, s5⟩)
 replace hc0 := hc0.snoc (r := slR A5 c5 w64R x0.Hist.Neg.Counts) (fun _ h => h)
 refine Rn.enter Tryz.func47 rfl rfl (Nat.le_of_ble_eq_true rfl) ?_
 refine gg 2 rfl (Rn.box rfl rfl rfl rfl rfl ?_)
 intro b10 w10 hb10 m10 e10
 have hm12 := (hm9.addBox hb10 e10 m10).nf [_, _, _, boxR _ _ [_, _, _, _, _, _, _, _, _, _, _, _, _, _, _, _, _]] rfl
 refine Rn.alloc rfl rfl rfl Tryz.zeroValue79 rfl ?_
 intro b13 w13 hb13 m13 e13
 have hm15 := (hm12.addBox hb13 e13 m13).nf [_, _, _, _, boxR _ _ [_, _, _, _, _, _, _, _, _]] rfl
 refine gg 4 rfl (Rn.q rfl (V.ldB Tryz.isAgg3 rfl (hm15.get 3 rfl) rfl) (gg 1 rfl (Rn.q rfl (V.ldB Tryz.isAgg3 rfl (hm15.get 3 rfl) rfl) (gg 1 rfl (Rn.q rfl (V.ldB Tryz.isAgg3 rfl (hm15.get 3 rfl) rfl) (gg 1 rfl (Rn.q rfl (V.ldB Tryz.isAgg3 rfl (hm15.get 3 rfl) rfl) (gg 1 rfl (Rn.q rfl (V.ldB Tryz.isAgg3 rfl (hm15.get 3 rfl) rfl) (gg 1 rfl (Rn.q rfl (V.ldB Tryz.isAgg3 rfl (hm15.get 3 rfl) rfl) (gg 1 rfl (Rn.q rfl (V.ldB Tryz.isAgg4 rfl (hm15.get 3 rfl) rfl) (gg 1 rfl (Rn.q rfl (V.ldB Tryz.isAgg23 rfl (hm15.get 3 rfl) rfl) (gg 1 rfl (Rn.q rfl (V.ldB Tryz.isAgg23 rfl (hm15.get 3 rfl) rfl) (Rn.q rfl (V.bldS (cs := [_, _, _, _, _, _, _, _, _]) st79 rfl rfl) (Rn.st rfl rfl Tryz.sizeOf79 rfl rfl rfl rfl (by first | exact ones rfl | (simp [Value.oneCell']; done)) (hm15.get 4 rfl) (by first | exact Nat.le_of_ble_eq_true rfl | (simp; done)) ?_)))))))))))))))))))
 intro w16 m16 x16
 have hm17 := (hm15.st 4 rfl x16 m16).nf [_, _, _, _, boxR _ _ [_, _, _, _, _, _, _, _, _]] rfl
 refine gg 1 rfl ?_
 refine Rn.retG1 Tryz.func47 rfl (rvC rfl Tryz.isAgg79 Tryz.sizeOf79 (hm17.get 4 rfl) rfl) ?_
 obtain rfl := someE hM
 exact ⟨rfl, hm17.pick [] rfl (by decide)⟩

theorem m_point_Same_sim {Z0 : Nat → Prop} {w : World} {x0 : T_api_Point} {cs0 : List Value} {x1 : T_api_Point} {cs1 : List Value} {r : Bool} (hM : m_point_Same x0 x1 = some r) (h0 : T_api_Point.rep.rel Z0 w cs0 x0) (h1 : T_api_Point.rep.rel Z0 w cs1 x1) :
    Calls Tryz.prog 12 #[.agg cs0.toArray, .agg cs1.toArray] w fun x w' => x = .returned (.bool (r)) ∧ Hp Z0 No w w' [] := by
 have hm0 := Hp.nil Z0 No w
 have hc0 := Calm.nil
 obtain ⟨_, _, rfl, ⟨rfl, _⟩, ⟨_, _, rfl, ⟨A1, c1, rfl, p1, q1, s1⟩, ⟨_, _, rfl, ⟨rfl, _⟩, ⟨_, _, rfl, ⟨rfl, _⟩, ⟨_, _, rfl, ⟨rfl, _⟩, ⟨_, _, rfl, ⟨rfl, _⟩, ⟨_, _, rfl, ⟨rfl, _⟩, ⟨_, _, rfl, ⟨rfl, _⟩, ⟨_, _, rfl, ⟨rfl, _⟩, ⟨_, _, rfl, ⟨rfl, _⟩, ⟨_, _, rfl, ⟨_, _, rfl, ⟨rfl, _⟩, ⟨_, _, rfl, ⟨rfl, _⟩, ⟨_, _, rfl, ⟨_, _, rfl, ⟨rfl, _⟩, ⟨A3, c3, rfl, p3, q3, s3⟩⟩, ⟨_, _, rfl, ⟨rfl, _⟩, ⟨A5, c5, rfl, p5, q5, s5⟩⟩⟩⟩⟩, ⟨rfl, _⟩⟩⟩⟩⟩⟩⟩⟩⟩⟩⟩⟩ := h0
 have hm13 := hm0.know (slR A1 c1 T_api_Pair.rep x0.Attrs) (fun _ h => h) (hm0.in0 hc0 ⟨p1, q1, s1⟩)
 replace hc0 := hc0.snoc (r := slR A1 c1 T_api_Pair.rep x0.Attrs) (fun _ h => h)
 have hm14 := hm13.know (slR A3 c3 w64R x0.Hist.Pos.Counts) (fun _ h => h) (hm13.in0 hc0 ⟨p3, q3, s3⟩)
 replace hc0 := hc0.snoc (r := slR A3 c3 w64R x0.Hist.Pos.Counts) (fun _ h => h)
 have hm15 := hm14.know (slR A5 c5 w64R x0.Hist.Neg.Counts) (fun _ h => h) (hm14.in0 hc0 ⟨p5, q5, s5⟩)
 replace hc0 := hc0.snoc (r := slR A5 c5 w64R x0.Hist.Neg.Counts) (fun _ h => h)
 obtain ⟨_, _, rfl, ⟨rfl, _⟩, ⟨_, _, rfl, ⟨A7, c7, rfl, p7, q7, s7⟩, ⟨_, _, rfl, ⟨rfl, _⟩, ⟨_, _, rfl, ⟨rfl, _⟩, ⟨_, _, rfl, ⟨rfl, _⟩, ⟨_, _, rfl, ⟨rfl, _⟩, ⟨_, _, rfl, ⟨rfl, _⟩, ⟨_, _, rfl, ⟨rfl, _⟩, ⟨_, _, rfl, ⟨rfl, _⟩, ⟨_, _, rfl, ⟨rfl, _⟩, ⟨_, _, rfl, ⟨_, _, rfl, ⟨rfl, _⟩, ⟨_, _, rfl, ⟨rfl, _⟩, ⟨_, _, rfl, ⟨_, _, rfl, ⟨rfl, _⟩, ⟨A9, c9, rfl, p9, q9, s9⟩⟩, ⟨_, _, rfl, ⟨rfl, _⟩, ⟨A11, c11, rfl, p11, q11, s11⟩⟩⟩⟩⟩, ⟨rfl, _⟩⟩⟩⟩⟩⟩⟩⟩⟩⟩⟩⟩ := h1
 have hm16 := hm15.know (slR A7 c7 T_api_Pair.rep x1.Attrs) (fun _ h => h) (hm15.in0 hc0 ⟨p7, q7, s7⟩)
 replace hc0 := hc0.snoc (r := slR A7 c7 T_api_Pair.rep x1.Attrs) (fun _ h => h)
 have hm17 := hm16.know (slR A9 c9 w64R x1.Hist.Pos.Counts) (fun _ h => h) (hm16.in0 hc0 ⟨p9, q9, s9⟩)
 replace hc0 := hc0.snoc (r := slR A9 c9 w64R x1.Hist.Pos.Counts) (fun _ h => h)
 have hm18 := hm17.know (slR A11 c11 w64R x1.Hist.Neg.Counts) (fun _ h => h) (hm17.in0 hc0 ⟨p11, q11, s11⟩)
 replace hc0 := hc0.snoc (r := slR A11 c11 w64R x1.Hist.Neg.Counts) (fun _ h => h)
 refine Rn.enter Tryz.func12 rfl rfl (Nat.le_of_ble_eq_true rfl) ?_
 refine gg 2 rfl (Rn.box rfl rfl rfl rfl rfl ?_)
 intro b19 w19 hb19 m19 e19
 have hm21 := (hm18.addBox hb19 e19 m19).nf [_, _, _, _, _, _, boxR _ _ [_, _, _, _, _, _, _, _, _, _, _, _, _, _, _, _, _]] rfl
 refine Rn.box rfl rfl rfl rfl rfl ?_
 intro b22 w22 hb22 m22 e22
 have hm24 := (hm21.addBox hb22 e22 m22).nf [_, _, _, _, _, _, _, boxR _ _ [_, _, _, _, _, _, _, _, _, _, _, _, _, _, _, _, _]] rfl
 refine gg 4 rfl ?_
 obtain ⟨j1, hj1, hM⟩ := jnE hM
 refine Rn.joinG (r := r) (G := Bool) (fun g => [(2, .pointer (some ⟨b19, 0, none⟩)), (3, .pointer (some ⟨b22, 0, none⟩)), (27, .bool (g))]) (fun g w' => Hp Z0 No w w' [slR A1 c1 T_api_Pair.rep x0.Attrs, slR A3 c3 w64R x0.Hist.Pos.Counts, slR A5 c5 w64R x0.Hist.Neg.Counts, slR A7 c7 T_api_Pair.rep x1.Attrs, slR A9 c9 w64R x1.Hist.Pos.Counts, slR A11 c11 w64R x1.Hist.Neg.Counts, boxR b19 30 [Str (x0.Name), .slice A1 (x0.Attrs).length c1, .int .i64 (x0.Kind), .int .i64 (x0.Temp), .bool (x0.Mono), .int .i64 (x0.Start), .int .i64 (x0.Time), .int .i64 (x0.Int_), .int .u64 (((x0.Re).toNat : Nat) : Int), .int .u64 (((x0.Im).toNat : Nat) : Int), .int .i64 (x0.Hist.Scale), .int .u64 (((x0.Hist.Zero).toNat : Nat) : Int), .int .i64 (x0.Hist.Pos.Offset), .slice A3 (x0.Hist.Pos.Counts).length c3, .int .i64 (x0.Hist.Neg.Offset), .slice A5 (x0.Hist.Neg.Counts).length c5, .int .i64 (x0.Flags)], boxR b22 30 [Str (x1.Name), .slice A7 (x1.Attrs).length c7, .int .i64 (x1.Kind), .int .i64 (x1.Temp), .bool (x1.Mono), .int .i64 (x1.Start), .int .i64 (x1.Time), .int .i64 (x1.Int_), .int .u64 (((x1.Re).toNat : Nat) : Int), .int .u64 (((x1.Im).toNat : Nat) : Int), .int .i64 (x1.Hist.Scale), .int .u64 (((x1.Hist.Zero).toNat : Nat) : Int), .int .i64 (x1.Hist.Pos.Offset), .slice A9 (x1.Hist.Pos.Counts).length c9, .int .i64 (x1.Hist.Neg.Offset), .slice A11 (x1.Hist.Neg.Counts).length c11, .int .i64 (x1.Flags)]]) (fun g => j1 g) ?_ ?_
 ·subst hj1
  clear hM
  rintro y25 w26 hm26 hM
  try dsimp only at hM
  refine Rn.condS rfl (fun h27 => ?_) (fun h27 => ?_)
  ·replace hM := iteT h27 hM
   refine gg 4 rfl ?_
   refine Rn.retG1 Tryz.func12 rfl (rvT rfl) ?_
   obtain rfl := someE hM
   exact ⟨rfl, hm26.pick [] rfl (by decide)⟩
  ·replace hM := iteFB hM h27
   refine gg 2 rfl ?_
   refine Rn.drawH rfl hm26 ?_
   intro w28 hm28
   refine RH.take 0 (by kernel_rfl) rfl rfl rfl rfl (fun w' hDr => V.ldBA [_, _, _, _, _, _, _, _, _, _, _, _, _, _, _, _, _] Tryz.isAgg30 Tryz.sizeOf30 rfl ((hm28.ext hDr).get 6 rfl) rfl rfl) ?_
   refine RH.take 2 (by kernel_rfl) rfl rfl rfl rfl (fun w' hDr => V.ldBA [_, _, _, _, _, _, _, _, _, _, _, _, _, _, _, _, _] Tryz.isAgg30 Tryz.sizeOf30 rfl ((hm28.ext hDr).get 7 rfl) rfl rfl) ?_
   obtain ⟨p29, e29, hM⟩ := bindE hM
   refine RH.cl ck47 1 (by kernel_rfl) rfl rfl rfl rfl (m_point_plain_sim (Z0 := All) e29 (show T_api_Point.rep.rel All _ _ _ from ⟨_, _, rfl, ⟨rfl, trivial⟩, ⟨_, _, rfl, ⟨_, _, rfl, (slR_all (hm28.get 0 rfl)).1, (slR_all (hm28.get 0 rfl)).2.1, (slR_all (hm28.get 0 rfl)).2.2⟩, ⟨_, _, rfl, ⟨rfl, trivial⟩, ⟨_, _, rfl, ⟨rfl, trivial⟩, ⟨_, _, rfl, ⟨rfl, trivial⟩, ⟨_, _, rfl, ⟨rfl, trivial⟩, ⟨_, _, rfl, ⟨rfl, trivial⟩, ⟨_, _, rfl, ⟨rfl, trivial⟩, ⟨_, _, rfl, ⟨rfl, trivial⟩, ⟨_, _, rfl, ⟨rfl, trivial⟩, ⟨_, _, rfl, ⟨_, _, rfl, ⟨rfl, trivial⟩, ⟨_, _, rfl, ⟨rfl, trivial⟩, ⟨_, _, rfl, ⟨_, _, rfl, ⟨rfl, trivial⟩, ⟨_, _, rfl, (slR_all (hm28.get 1 rfl)).1, (slR_all (hm28.get 1 rfl)).2.1, (slR_all (hm28.get 1 rfl)).2.2⟩⟩, ⟨_, _, rfl, ⟨rfl, trivial⟩, ⟨_, _, rfl, (slR_all (hm28.get 2 rfl)).1, (slR_all (hm28.get 2 rfl)).2.1, (slR_all (hm28.get 2 rfl)).2.2⟩⟩⟩⟩⟩, ⟨rfl, trivial⟩⟩⟩⟩⟩⟩⟩⟩⟩⟩⟩⟩) :) ?_
   rintro _ w29 ⟨rfl, hq29⟩
   refine ⟨_, rfl, ((Ext.refl _).trans hq29.fr), ?_⟩
   have hm30 := hm28.call0 hq29
   obtain ⟨p31, e31, hM⟩ := bindE hM
   refine RH.cl ck47 3 (by kernel_rfl) rfl rfl rfl rfl (m_point_plain_sim (Z0 := All) e31 (show T_api_Point.rep.rel All _ _ _ from ⟨_, _, rfl, ⟨rfl, trivial⟩, ⟨_, _, rfl, ⟨_, _, rfl, (slR_all (hm30.get 3 rfl)).1, (slR_all (hm30.get 3 rfl)).2.1, (slR_all (hm30.get 3 rfl)).2.2⟩, ⟨_, _, rfl, ⟨rfl, trivial⟩, ⟨_, _, rfl, ⟨rfl, trivial⟩, ⟨_, _, rfl, ⟨rfl, trivial⟩, ⟨_, _, rfl, ⟨rfl, trivial⟩, ⟨_, _, rfl, ⟨rfl, trivial⟩, ⟨_, _, rfl, ⟨rfl, trivial⟩, ⟨_, _, rfl, ⟨rfl, trivial⟩, ⟨_, _, rfl, ⟨rfl, trivial⟩, ⟨_, _, rfl, ⟨_, _, rfl, ⟨rfl, trivial⟩, ⟨_, _, rfl, ⟨rfl, trivial⟩, ⟨_, _, rfl, ⟨_, _, rfl, ⟨rfl, trivial⟩, ⟨_, _, rfl, (slR_all (hm30.get 4 rfl)).1, (slR_all (hm30.get 4 rfl)).2.1, (slR_all (hm30.get 4 rfl)).2.2⟩⟩, ⟨_, _, rfl, ⟨rfl, trivial⟩, ⟨_, _, rfl, (slR_all (hm30.get 5 rfl)).1, (slR_all (hm30.get 5 rfl)).2.1, (slR_all (hm30.get 5 rfl)).2.2⟩⟩⟩⟩⟩, ⟨rfl, trivial⟩⟩⟩⟩⟩⟩⟩⟩⟩⟩⟩⟩) :) ?_
   rintro _ w31 ⟨rfl, hq31⟩
   refine ⟨_, rfl, (((Ext.refl _).trans hq29.fr).trans hq31.fr), ?_⟩
   have hm32 := hm30.call0 hq31
   refine RH.here fun hS4 => RH.one 4 (by kernel_rfl) rfl rfl rfl rfl (V.eqlT Tryz.eqGuardType79 rfl rfl (eq79 _ _)) hS4 ?_
   refine dd [5] (by kernel_rfl) rfl rfl ?_
   refine RH.doneP (by kernel_rfl) ?_
   refine Rn.retG1 Tryz.func12 rfl (rvT rfl) ?_
   obtain rfl := someE hM
   exact ⟨rfl, hm32.pick [] rfl (by decide)⟩
 intro hk1
 clear hj1
 refine Rn.drawH rfl hm24 ?_
 intro w33 hm33
 refine dd [0] (by kernel_rfl) rfl rfl ?_
 refine RH.take 1 (by kernel_rfl) rfl rfl rfl rfl (fun w' hDr => V.ldB Tryz.isAgg9 rfl ((hm33.ext hDr).get 6 rfl) rfl) ?_
 refine dd [2] (by kernel_rfl) rfl rfl ?_
 refine RH.here fun hS3 => RH.one 3 (by kernel_rfl) rfl rfl rfl rfl (V.ldB Tryz.isAgg9 rfl (hm33.get 7 rfl) rfl) hS3 ?_
 refine RH.here fun hS4 => RH.one 4 (by kernel_rfl) rfl rfl rfl rfl (V.neqS rfl rfl) hS4 ?_
 refine dd [5] (by kernel_rfl) rfl rfl ?_
 refine RH.partD (t := 10) rfl (fun h34 => ?_) (fun h34 => ?_)
 ·replace hM := iteT h34 hM
  refine dd [6, 7, 8, 9, 10, 11, 12, 13, 14, 15, 16, 17, 18, 19, 20, 21, 22] (by kernel_rfl) rfl rfl ?_
  refine RH.doneP (by kernel_rfl) ?_
  exact hk1 true _ _ (Sub.cons rfl (Sub.cons rfl (Sub.cons rfl (Sub.nil _)))) (hm33.pick [0, 1, 2, 3, 4, 5, 6, 7] rfl (by decide)) hM
 ·replace hM := iteF h34 hM
  refine dd [6] (by kernel_rfl) rfl rfl ?_
  refine RH.take 7 (by kernel_rfl) rfl rfl rfl rfl (fun w' hDr => V.ldB Tryz.isAgg22 rfl ((hm33.ext hDr).get 6 rfl) rfl) ?_
  refine dd [9] (by kernel_rfl) rfl rfl ?_
  refine RH.take 10 (by kernel_rfl) rfl rfl rfl rfl (fun w' hDr => V.ldB Tryz.isAgg22 rfl ((hm33.ext hDr).get 7 rfl) rfl) ?_
  obtain ⟨p35, e35, hM⟩ := bindE hM
  refine RH.cl ck45 8 (by kernel_rfl) rfl rfl rfl rfl (m_label_Sorted_sim (Z0 := All) e35 (slR_all (hm33.get 0 rfl)) :) ?_
  rintro _ w35 ⟨A35_0_0, c35_0_0, rfl, hq35⟩
  refine ⟨_, rfl, ((Ext.refl _).trans hq35.fr), ?_⟩
  have hm37 := hm33.callF (flC (ownR_flat T_api_Pair.flat _ _ _ _) fl0) hq35
  obtain ⟨p38, e38, hM⟩ := bindE hM
  refine RH.cl ck45 11 (by kernel_rfl) rfl rfl rfl rfl (m_label_Sorted_sim (Z0 := All) e38 (slR_all (hm37.get 3 rfl)) :) ?_
  rintro _ w38 ⟨A38_0_0, c38_0_0, rfl, hq38⟩
  refine ⟨_, rfl, (((Ext.refl _).trans hq35.fr).trans hq38.fr), ?_⟩
  have hm40 := hm37.callF (flC (ownR_flat T_api_Pair.flat _ _ _ _) fl0) hq38
  obtain ⟨p41, e41, hM⟩ := bindE hM
  refine RH.cl ck44 12 (by kernel_rfl) rfl rfl rfl rfl (m_slices_Equal_api_Pair_api_Pair_sim (Z0 := All) e41 (own_slR (hm40.get 8 rfl)) (own_slR (hm40.get 9 rfl)) :) ?_
  rintro _ w41 ⟨rfl, hq41⟩
  refine ⟨_, rfl, ((((Ext.refl _).trans hq35.fr).trans hq38.fr).trans hq41.fr), ?_⟩
  have hm42 := hm40.call0 hq41
  refine RH.here fun hS13 => RH.one 13 (by kernel_rfl) rfl rfl rfl rfl (V.notB rfl) hS13 ?_
  refine dd [14, 15] (by kernel_rfl) rfl rfl ?_
  refine RH.part (t := 20) rfl (fun h43 => ?_) (fun h43 => ?_)
  ·replace hM := iteT h43 hM
   refine dd [16, 17, 18, 19, 20, 21, 22] (by kernel_rfl) rfl rfl ?_
   refine RH.doneP (by kernel_rfl) ?_
   exact hk1 true _ _ (Sub.cons rfl (Sub.cons rfl (Sub.cons rfl (Sub.nil _)))) (hm42.pick [0, 1, 2, 3, 4, 5, 6, 7] rfl (by decide)) hM
  ·replace hM := iteFB hM h43
   refine dd [16] (by kernel_rfl) rfl rfl ?_
   refine RH.take 17 (by kernel_rfl) rfl rfl rfl rfl (fun w' hDr => V.ldBA [_, _, _, _, _, _] Tryz.isAgg28 Tryz.sizeOf28 rfl ((hm33.ext hDr).get 6 rfl) rfl rfl) ?_
   refine dd [18] (by kernel_rfl) rfl rfl ?_
   refine RH.here fun hS19 => RH.one 19 (by kernel_rfl) rfl rfl rfl rfl (V.ldBA [_, _, _, _, _, _] Tryz.isAgg28 Tryz.sizeOf28 rfl (hm42.get 7 rfl) rfl rfl) hS19 ?_
   obtain ⟨p44, e44, hM⟩ := bindE hM
   refine RH.cl ck46 20 (by kernel_rfl) rfl rfl rfl rfl (m_hist_Same_sim (Z0 := All) e44 (show T_api_Hist.rep.rel All _ _ _ from ⟨_, _, rfl, ⟨rfl, trivial⟩, ⟨_, _, rfl, ⟨rfl, trivial⟩, ⟨_, _, rfl, ⟨_, _, rfl, ⟨rfl, trivial⟩, ⟨_, _, rfl, (slR_all (hm42.get 1 rfl)).1, (slR_all (hm42.get 1 rfl)).2.1, (slR_all (hm42.get 1 rfl)).2.2⟩⟩, ⟨_, _, rfl, ⟨rfl, trivial⟩, ⟨_, _, rfl, (slR_all (hm42.get 2 rfl)).1, (slR_all (hm42.get 2 rfl)).2.1, (slR_all (hm42.get 2 rfl)).2.2⟩⟩⟩⟩⟩) (show T_api_Hist.rep.rel All _ _ _ from ⟨_, _, rfl, ⟨rfl, trivial⟩, ⟨_, _, rfl, ⟨rfl, trivial⟩, ⟨_, _, rfl, ⟨_, _, rfl, ⟨rfl, trivial⟩, ⟨_, _, rfl, (slR_all (hm42.get 4 rfl)).1, (slR_all (hm42.get 4 rfl)).2.1, (slR_all (hm42.get 4 rfl)).2.2⟩⟩, ⟨_, _, rfl, ⟨rfl, trivial⟩, ⟨_, _, rfl, (slR_all (hm42.get 5 rfl)).1, (slR_all (hm42.get 5 rfl)).2.1, (slR_all (hm42.get 5 rfl)).2.2⟩⟩⟩⟩⟩) :) ?_
   rintro _ w44 ⟨rfl, hq44⟩
   refine ⟨_, rfl, (((((Ext.refl _).trans hq35.fr).trans hq38.fr).trans hq41.fr).trans hq44.fr), ?_⟩
   have hm45 := hm42.call0 hq44
   refine RH.here fun hS21 => RH.one 21 (by kernel_rfl) rfl rfl rfl rfl (V.notB rfl) hS21 ?_
   refine dd [22] (by kernel_rfl) rfl rfl ?_
   refine RH.doneP (by kernel_rfl) ?_
   exact hk1 (!p44) _ _ (Sub.cons rfl (Sub.cons rfl (Sub.cons rfl (Sub.nil _)))) (hm45.pick [0, 1, 2, 3, 4, 5, 6, 7] rfl (by decide)) hM

end Go.Proofs.YtfcpdojcfogkbaaGreat
