/-
  Walks of functions of the program, group A4: what each call answers, and what stays of the memory.
-/
import Derived.Test.YtpeloppldpdonaaA3
namespace Go.Proofs.Ytpeloppldpdonaa
open Go Go.RowKit Go.Wk
theorem ck63 : CallOk Try.prog 63 := ⟨_, _, Try.func63, rfl, by kernel_rfl⟩
theorem ck64 : CallOk Try.prog 64 := ⟨_, _, Try.func64, rfl, by kernel_rfl⟩
set_option maxRecDepth 20000 in
theorem step_spec (u : UInt32) (w : World) : Calls Try.prog 64 #[I32 u] w fun x w' => x = .returned (I32 (stepR u)) ∧ w = w' := by
  refine Rn.enter Try.func64 rfl rfl (Nat.le_of_ble_eq_true rfl) ?_
  refine Rn.seq (Rn.reg (Rn.v rfl rfl rfl rfl (V.as rfl) (Rn.regEnd (Rn.seq (Rn.reg (Rn.v rfl rfl rfl rfl (V.mv rfl) (Rn.v rfl rfl rfl rfl (V.to (V.remI rfl rfl (by omega) (by omega)) (show _ = I32 (u % 2) by simp [I32, UInt32.toNat_mod])) (Rn.v rfl rfl rfl rfl (V.as rfl) (Rn.regEnd (Rn.seq (Rn.reg (Rn.v rfl rfl rfl rfl (V.mv rfl) (Rn.v rfl rfl rfl rfl (V.to (V.quoI rfl rfl (by omega) (by omega) (wu32 (by omega) (by have := u.toNat_lt; omega))) (show _ = I32 (u / 2) by simp [I32, UInt32.toNat_div])) (Rn.v rfl rfl rfl rfl (V.as rfl) (Rn.regEnd (Rn.seq (Rn.seq (Rn.reg (Rn.v rfl rfl rfl rfl (V.mv rfl) (Rn.v rfl rfl rfl rfl (V.eql rfl rfl) (Rn.regEnd ?_)))))))))))))))))))))
  refine Rn.condD rfl (fun h1 => ?_) (fun h1 => ?_)
  have h1' : u % 2 = 1 := UInt32.toNat_inj.1 (by have : ((1 : UInt32).toNat : Int) = 1 := rfl; omega)
  refine Rn.reg (Rn.v rfl rfl rfl rfl (V.mv rfl) (Rn.v rfl rfl rfl rfl (V.o32 rfl rfl _ 2197175160 rfl rfl (b32_xor _ _ _)) (Rn.v rfl rfl rfl rfl (V.as rfl) (Rn.regEnd (Rn.seq (Rn.reg (Rn.v rfl rfl rfl rfl (V.mv rfl) (Rn.v rfl rfl rfl rfl (V.as rfl) (Rn.regEnd ?_)))))))))
  refine Rn.ret1 Try.func64 rfl rfl ?_
  exact ⟨by simp [stepR, h1'], rfl⟩
  have h1' : ¬ u % 2 = 1 := fun hh => h1 (by rw [hh]; rfl)
  refine Rn.skip (Rn.seq (Rn.reg (Rn.v rfl rfl rfl rfl (V.mv rfl) (Rn.v rfl rfl rfl rfl (V.as rfl) (Rn.regEnd ?_)))))
  refine Rn.ret1 Try.func64 rfl rfl ?_
  exact ⟨by simp [stepR, h1'], rfl⟩

set_option maxRecDepth 20000 in
theorem moreR_spec {D : Nat → Prop} (s : UInt32) (A : Option Addr) (c : Nat) (l : List UInt8) (w : World) (hl : l.length ≤ 4294967296) (hS : Sl D w A byteR l) :
    Calls Try.prog 63 #[I32 s, .slice A l.length c] w fun x w' => x = .returned (I32 (moreR s l)) ∧ w = w' := by
  refine Rn.enter Try.func63 rfl rfl (Nat.le_of_ble_eq_true rfl) ?_
  refine Rn.seq (Rn.reg (Rn.v rfl rfl rfl rfl (V.as rfl) (Rn.regEnd (Rn.seq (Rn.seq (Rn.reg (Rn.v rfl rfl rfl rfl (V.as rfl) (Rn.regEnd (Rn.block ?_)))))))))
  refine Rn.loopI (G := Nat) (fun g => [(0, I32 (moreR s (l.take g))), (5, .int .i64 g), (1, .slice A l.length c)]) (fun g w' => g ≤ l.length ∧ w = w') (fun g => l.length - g) 0 ?_ ?_ ?_
  · exact Sub.cons rfl (Sub.cons (lki _ rfl (by first | omega | rfl | (dsimp only; omega))) (Sub.cons rfl (Sub.nil _)))
  · exact ⟨by omega, rfl⟩
  rintro i _ ⟨hi, rfl⟩ hn1
  refine Rn.seq (Rn.seq (Rn.reg (Rn.v rfl rfl rfl rfl (V.mv rfl) (Rn.v rfl rfl rfl rfl (V.mv rfl) (Rn.v rfl rfl rfl rfl (V.lenV Try.underlying22 rfl) (Rn.v rfl rfl rfl rfl (V.lss rfl rfl) (Rn.regEnd ?_)))))))
  refine Rn.condD rfl (fun hlt => ?_) (fun hlt => ?_)
  obtain ⟨z, hz⟩ : ∃ z, l[i]? = some z := ⟨_, List.getElem?_eq_getElem (by omega)⟩
  obtain ⟨q, hq⟩ : ∃ q, moreR s (l.take i) = q := ⟨_, rfl⟩
  rw [hq]
  refine Rn.skip (Rn.seq (Rn.block (Rn.seq (Rn.reg (Rn.v rfl rfl rfl rfl (V.mv rfl) (Rn.v rfl rfl rfl rfl (V.mv rfl) (Rn.v rfl rfl rfl rfl (V.mv rfl) (Rn.ix i z rfl rfl rfl Try.underlying22 Try.sizeOf5 rfl rfl hS rfl hz rfl (by omega) ?_))))))))
  rintro b2 o2 vs2 r2 ⟨rfl, _⟩ hD2
  refine Rn.v rfl rfl rfl rfl (V.ldR0 Try.isAgg5 rfl r2 rfl) (Rn.v rfl rfl rfl rfl (V.cv832 Try.underlying5 Try.underlying110 rfl _ rfl) (Rn.v rfl rfl rfl rfl (V.o32 rfl rfl _ _ rfl rfl (b32_xor _ _ _)) (Rn.v rfl rfl rfl rfl (V.as rfl) (Rn.regEnd (Rn.seq (Rn.reg (Rn.v rfl rfl rfl rfl (V.as rfl) (Rn.regEnd (Rn.block ?_)))))))))
  refine Rn.loopI (G := Nat) (fun g => [(0, I32 (stepRN g (q ^^^ z.toUInt32))), (5, .int .i64 i), (6, .int .i64 g), (1, .slice A l.length c)]) (fun g w' => g ≤ 8 ∧ w = w') (fun g => 8 - g) 0 ?_ ?_ ?_
  · exact Sub.cons rfl (Sub.cons (lki _ rfl (by first | omega | rfl | (dsimp only; omega))) (Sub.cons (lki _ rfl (by first | omega | rfl | (dsimp only; omega))) (Sub.cons rfl (Sub.nil _))))
  · exact ⟨by omega, rfl⟩
  rintro k _ ⟨hk, rfl⟩ hn3
  refine Rn.seq (Rn.seq (Rn.reg (Rn.v rfl rfl rfl rfl (V.mv rfl) (Rn.v rfl rfl rfl rfl (V.lss rfl rfl) (Rn.regEnd ?_)))))
  refine Rn.condD rfl (fun hk8 => ?_) (fun hk8 => ?_)
  refine Rn.skip (Rn.seq (Rn.block (Rn.reg (Rn.v rfl rfl rfl rfl (V.mv rfl) (Rn.cl ck64 rfl rfl rfl rfl (step_spec _ _) ?_)))))
  rintro _ _ ⟨rfl, rfl⟩
  refine ⟨_, rfl, ?_⟩
  refine Rn.v rfl rfl rfl rfl (V.as rfl) (Rn.regEnd (Rn.inBlock (Rn.reg (Rn.v rfl rfl rfl rfl (V.mv rfl) (Rn.v rfl rfl rfl rfl (V.addI rfl rfl (w64 (by omega) (by omega))) (Rn.v rfl rfl rfl rfl (V.as rfl) (Rn.regEnd ?_)))))))
  exact hn3 (k+1) _ _ (Sub.cons rfl (Sub.cons (lki _ rfl (by first | omega | rfl | (dsimp only; omega))) (Sub.cons (lki _ rfl (by first | omega | rfl | (dsimp only; omega))) (Sub.cons rfl (Sub.nil _))))) (⟨by omega, rfl⟩) (by omega)
  obtain rfl : k = 8 := by omega
  refine Rn.exit rfl (Rn.inBlock (Rn.reg (Rn.v rfl rfl rfl rfl (V.mv rfl) (Rn.v rfl rfl rfl rfl (V.addI rfl rfl (w64 (by omega) (by omega))) (Rn.v rfl rfl rfl rfl (V.as rfl) (Rn.regEnd ?_))))))
  exact hn1 (i+1) _ _ (Sub.cons (by rw [List.take_add_one, hz, show moreR s (l.take i ++ (some z).toList) = stepRN 8 (moreR s (l.take i) ^^^ z.toUInt32) from by simp [moreR, byteR8], hq]; rfl) (Sub.cons (lki _ rfl (by first | omega | rfl | (dsimp only; omega))) (Sub.cons rfl (Sub.nil _)))) (⟨by omega, rfl⟩) (by omega)
  refine Rn.exit rfl (Rn.seq (Rn.reg (Rn.v rfl rfl rfl rfl (V.mv rfl) (Rn.v rfl rfl rfl rfl (V.as rfl) (Rn.regEnd ?_)))))
  refine Rn.ret1 Try.func63 rfl rfl ?_
  exact ⟨by rw [List.take_of_length_le (by omega)], rfl⟩

set_option maxRecDepth 20000 in
theorem ofR_spec {D : Nat → Prop} (A : Option Addr) (c : Nat) (l : List UInt8) (w : World) (hl : l.length ≤ 4294967296) (hS : Sl D w A byteR l) :
    Calls Try.prog 61 #[.slice A l.length c] w fun x w' => x = .returned (I32 (ofR l)) ∧ w = w' := by
  refine Rn.enter Try.func61 rfl rfl (Nat.le_of_ble_eq_true rfl) ?_
  refine Rn.seq (Rn.reg (Rn.v rfl rfl rfl rfl (V.as rfl) (Rn.regEnd (Rn.seq (Rn.reg (Rn.v rfl rfl rfl rfl (V.mv rfl) (Rn.cl ck63 rfl rfl rfl rfl (moreR_spec 4294967295 _ _ _ _ hl hS) ?_)))))))
  rintro _ _ ⟨rfl, rfl⟩
  refine ⟨_, rfl, ?_⟩
  refine Rn.v rfl rfl rfl rfl (V.to (V.subI rfl rfl (wu32 (by have := (moreR 4294967295 l).toNat_lt; omega) (by omega))) (show _ = I32 (ofR l) by simp only [I32, ofR, UInt32.toNat_sub]; congr 1; have := (moreR 4294967295 l).toNat_lt; have : (4294967295 : UInt32).toNat = 4294967295 := rfl; omega)) (Rn.v rfl rfl rfl rfl (V.as rfl) (Rn.regEnd ?_))
  refine Rn.ret1 Try.func61 rfl rfl ?_
  exact ⟨rfl, rfl⟩

end Go.Proofs.Ytpeloppldpdonaa
