/-
  Walks of functions of the program, group A3: what each call answers, and what stays of the memory.
-/
import Derived.Test.YtpeloppldpdonaaA2
namespace Go.Proofs.Ytpeloppldpdonaa
open Go Go.RowKit Go.Wk
theorem ck59 : CallOk Try.prog 59 := ⟨_, _, Try.func59, rfl, by kernel_rfl⟩
set_option maxRecDepth 20000 in
theorem four_spec (u : UInt32) (w : World) :
    Calls Try.prog 55 #[I32 u] w fun x w' => ∃ A c, x = .returned (.slice A 4 c) ∧ Own w.heap.size No w' 5 A c byteR (fourU u) ∧ Ext w w' := by
  refine Rn.enter Try.func55 rfl rfl (Nat.le_of_ble_eq_true rfl) ?_
  refine Rn.seq (Rn.reg (Rn.v rfl rfl rfl rfl (V.as rfl) (Rn.regEnd (Rn.seq (Rn.reg (Rn.v rfl rfl rfl rfl (V.mv rfl) (Rn.v rfl rfl rfl rfl (V.cv328 Try.underlying110 Try.underlying5 rfl _ rfl) (Rn.v rfl rfl rfl rfl (V.mv rfl) (Rn.v rfl rfl rfl rfl (V.sh32 rfl rfl _ 8 rfl rfl (b32_shr _ _ _ 8 (by decide))) (Rn.v rfl rfl rfl rfl (V.cv328 Try.underlying110 Try.underlying5 rfl _ rfl) (Rn.v rfl rfl rfl rfl (V.mv rfl) (Rn.v rfl rfl rfl rfl (V.sh32 rfl rfl _ 16 rfl rfl (b32_shr _ _ _ 16 (by decide))) (Rn.v rfl rfl rfl rfl (V.cv328 Try.underlying110 Try.underlying5 rfl _ rfl) (Rn.v rfl rfl rfl rfl (V.mv rfl) (Rn.v rfl rfl rfl rfl (V.sh32 rfl rfl _ 24 rfl rfl (b32_shr _ _ _ 24 (by decide))) (Rn.v rfl rfl rfl rfl (V.cv328 Try.underlying110 Try.underlying5 rfl _ rfl) (Rn.bslS rfl rfl rfl Try.underlying22 el5 rfl rfl rfl rfl (by first | exact szs rfl | (simp [Value.cells]; done)) (by decide) ?_)))))))))))))))))
  intro b1 w1 hb1 m1 x1
  have o1 : Own w.heap.size No w1 5 (some ⟨b1, 0, none⟩) 4 byteR (fourU u) := own_bytes (fourU u) m1 (by omega) (Nat.le_of_ble_eq_true rfl)
  refine Rn.v rfl rfl rfl rfl (V.as rfl) (Rn.regEnd ?_)
  refine Rn.ret1 Try.func55 rfl rfl ?_
  exact ⟨_, _, rfl, o1, x1⟩

set_option maxRecDepth 20000 in
theorem number_spec {D : Nat → Prop} (A : Option Addr) (c m : Nat) (l : List UInt8) (a0 a1 a2 a3 : UInt8) (r : List UInt8) (w : World) (hl : l = a0 :: a1 :: a2 :: a3 :: r) (hm : l.length = m) (hS : Sl D w A byteR l) :
    Calls Try.prog 50 #[.slice A m c] w fun x w' => x = .returned (.int .u32 (num4 a0 a1 a2 a3 : Nat)) ∧ Ext w w' := by
  subst hl
  obtain ⟨b, o, rfl, hb⟩ := hS.bytes (by simp)
  simp only [List.length_cons] at hm
  have hb0 := hb 0 a0 rfl
  have hb1 := hb 1 a1 rfl
  have hb2 := hb 2 a2 rfl
  have hb3 := hb 3 a3 rfl
  refine Rn.enter Try.func50 rfl rfl (Nat.le_of_ble_eq_true rfl) ?_
  refine Rn.seq (Rn.reg (Rn.v rfl rfl rfl rfl (V.as rfl) (Rn.regEnd (Rn.seq ?_))))
  refine Rn.drawE rfl ?_
  intro w1 x1
  refine RH.take 0 (by kernel_rfl) rfl rfl rfl rfl (fun w' hDr => V.mv rfl) ?_
  refine RH.take 1 (by kernel_rfl) rfl rfl rfl rfl (fun w' hDr => V.ixA 0 Try.underlying22 Try.sizeOf5 rfl rfl rfl (by omega)) ?_
  refine RH.take 2 (by kernel_rfl) rfl rfl rfl rfl (fun w' hDr => V.ldR0 Try.isAgg5 rfl ((hb0.ext x1).ext hDr) rfl) ?_
  refine RH.take 3 (by kernel_rfl) rfl rfl rfl rfl (fun w' hDr => V.cv832 Try.underlying5 Try.underlying110 rfl _ rfl) ?_
  refine RH.take 4 (by kernel_rfl) rfl rfl rfl rfl (fun w' hDr => V.mv rfl) ?_
  refine RH.take 5 (by kernel_rfl) rfl rfl rfl rfl (fun w' hDr => V.ixA 1 Try.underlying22 Try.sizeOf5 rfl rfl rfl (by omega)) ?_
  refine RH.take 6 (by kernel_rfl) rfl rfl rfl rfl (fun w' hDr => V.ldR0 Try.isAgg5 rfl ((hb1.ext x1).ext hDr) rfl) ?_
  refine RH.take 7 (by kernel_rfl) rfl rfl rfl rfl (fun w' hDr => V.cv832 Try.underlying5 Try.underlying110 rfl _ rfl) ?_
  refine RH.take 8 (by kernel_rfl) rfl rfl rfl rfl (fun w' hDr => V.sh32 rfl rfl _ 8 rfl rfl (b32_shl _ _ _ 8 (by decide))) ?_
  refine RH.take 9 (by kernel_rfl) rfl rfl rfl rfl (fun w' hDr => V.o32 rfl rfl _ _ rfl rfl (b32_or _ _ _)) ?_
  refine RH.take 10 (by kernel_rfl) rfl rfl rfl rfl (fun w' hDr => V.mv rfl) ?_
  refine RH.take 11 (by kernel_rfl) rfl rfl rfl rfl (fun w' hDr => V.ixA 2 Try.underlying22 Try.sizeOf5 rfl rfl rfl (by omega)) ?_
  refine RH.take 12 (by kernel_rfl) rfl rfl rfl rfl (fun w' hDr => V.ldR0 Try.isAgg5 rfl ((hb2.ext x1).ext hDr) rfl) ?_
  refine RH.take 13 (by kernel_rfl) rfl rfl rfl rfl (fun w' hDr => V.cv832 Try.underlying5 Try.underlying110 rfl _ rfl) ?_
  refine RH.take 14 (by kernel_rfl) rfl rfl rfl rfl (fun w' hDr => V.sh32 rfl rfl _ 16 rfl rfl (b32_shl _ _ _ 16 (by decide))) ?_
  refine RH.take 15 (by kernel_rfl) rfl rfl rfl rfl (fun w' hDr => V.o32 rfl rfl _ _ rfl rfl (b32_or _ _ _)) ?_
  refine RH.take 16 (by kernel_rfl) rfl rfl rfl rfl (fun w' hDr => V.mv rfl) ?_
  refine RH.take 17 (by kernel_rfl) rfl rfl rfl rfl (fun w' hDr => V.ixA 3 Try.underlying22 Try.sizeOf5 rfl rfl rfl (by omega)) ?_
  refine RH.take 18 (by kernel_rfl) rfl rfl rfl rfl (fun w' hDr => V.ldR0 Try.isAgg5 rfl ((hb3.ext x1).ext hDr) rfl) ?_
  refine RH.take 19 (by kernel_rfl) rfl rfl rfl rfl (fun w' hDr => V.cv832 Try.underlying5 Try.underlying110 rfl _ rfl) ?_
  refine RH.take 20 (by kernel_rfl) rfl rfl rfl rfl (fun w' hDr => V.sh32 rfl rfl _ 24 rfl rfl (b32_shl _ _ _ 24 (by decide))) ?_
  refine RH.take 21 (by kernel_rfl) rfl rfl rfl rfl (fun w' hDr => V.o32 rfl rfl _ _ rfl rfl (b32_or _ _ _)) ?_
  refine RH.take 22 (by kernel_rfl) rfl rfl rfl rfl (fun w' hDr => V.as rfl) ?_
  refine RH.done (by kernel_rfl) (fun xd1 => ?_)
  refine Rn.ret1 Try.func50 rfl rfl ?_
  exact ⟨by rw [← numU_toNat]; rfl, x1⟩

set_option maxRecDepth 20000 in
theorem sum_spec {D D' : Nat → Prop} (A : Option Addr) (c m : Nat) (l : List UInt8) (A' : Option Addr) (c' m' : Nat) (l' : List UInt8) (w : World) (hl : l.length ≤ 4294967296) (hl' : l'.length ≤ 4294967296) (hm : l.length = m) (hm' : l'.length = m') (hS : Sl D w A byteR l) (hS' : Sl D' w A' byteR l') :
    Calls Try.prog 51 #[.slice A m c, .slice A' m' c'] w fun x w' => x = .returned (I32 (ofR (l ++ l'))) ∧ Ext w w' := by
  subst hm hm'
  refine Rn.enter Try.func51 rfl rfl (Nat.le_of_ble_eq_true rfl) ?_
  refine Rn.seq (Rn.reg (Rn.v rfl rfl rfl rfl (V.as rfl) (Rn.regEnd (Rn.seq (Rn.reg (Rn.v rfl rfl rfl rfl (V.mv rfl) (Rn.cl ck59 rfl rfl rfl rfl (of_spec _ _ _ _ hl hS.all) ?_)))))))
  rintro _ w1 ⟨rfl, x1⟩
  refine ⟨_, rfl, ?_⟩
  refine Rn.v rfl rfl rfl rfl (V.mv rfl) (Rn.cl ck58 rfl rfl rfl rfl (more_spec _ _ _ _ _ hl' (hS'.ext x1).all) ?_)
  rintro _ w2 ⟨rfl, x2⟩
  refine ⟨_, rfl, ?_⟩
  refine Rn.v rfl rfl rfl rfl (V.as rfl) (Rn.regEnd ?_)
  refine Rn.ret1 Try.func51 rfl rfl ?_
  exact ⟨by rw [moreC_append, moreC_zero], (x1.trans x2)⟩

end Go.Proofs.Ytpeloppldpdonaa
