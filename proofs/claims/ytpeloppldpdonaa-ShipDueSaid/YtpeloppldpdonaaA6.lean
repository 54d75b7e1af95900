/-
  Walks of functions of the program, group A6: what each call answers, and what stays of the memory.
-/
import Derived.Test.YtpeloppldpdonaaA5
namespace Go.Proofs.Ytpeloppldpdonaa
open Go Go.RowKit Go.Wk
theorem ck17 : CallOk Try.prog 17 := ⟨_, _, Try.func17, rfl, by kernel_rfl⟩
theorem ck50 : CallOk Try.prog 50 := ⟨_, _, Try.func50, rfl, by kernel_rfl⟩
set_option maxRecDepth 20000 in
theorem first_spec {D : Nat → Prop} (A : Option Addr) (c m : Nat) (l : List UInt8) (w : World) (hl : l.length ≤ 4294967296) (hm : l.length = m) (hmc : m ≤ c) (hS : Sl D w A byteR l) :
    Calls Try.prog 37 #[.slice A m c] w fun x w' => ∃ A' c', x = .returned (.tuple #[.slice A' (firstF l).1.length c', .int .i64 (firstF l).2.1, .int .i64 (firstF l).2.2]) ∧ Own w.heap.size No w' 5 A' c' byteR (firstF l).1 ∧ Ext w w' := by
  subst hm
  refine Rn.enter Try.func37 rfl rfl (Nat.le_of_ble_eq_true rfl) ?_
  refine Rn.seq (Rn.reg (Rn.v rfl rfl rfl rfl (V.as rfl) (Rn.v rfl rfl rfl rfl (V.as rfl) (Rn.v rfl rfl rfl rfl (V.as rfl) (Rn.regEnd (Rn.seq (Rn.block (Rn.seq (Rn.reg (Rn.v rfl rfl rfl rfl (V.mv rfl) (Rn.v rfl rfl rfl rfl (V.lenV Try.underlying22 rfl) (Rn.v rfl rfl rfl rfl (V.eql rfl rfl) (Rn.v rfl rfl rfl rfl (V.as rfl) (Rn.regEnd ?_))))))))))))))
  refine Rn.condD rfl (fun h0 => ?_) (fun h0 => ?_)
  obtain rfl : l = [] := List.eq_nil_of_length_eq_zero (by omega)
  refine Rn.seq (Rn.reg (Rn.v rfl rfl rfl rfl (V.as rfl) (Rn.v rfl rfl rfl rfl (V.as rfl) (Rn.v rfl rfl rfl rfl (V.as rfl) (Rn.regEnd ?_)))))
  refine Rn.ret3 Try.func37 rfl rfl rfl rfl ?_
  exact ⟨none, 0, rfl, Own.nil _ _ _ _ _, Ext.refl _⟩
  obtain ⟨y0, t, rfl⟩ : ∃ y0 t, l = y0 :: t := by cases l with | nil => exact absurd rfl h0 | cons x t => exact ⟨x, t, rfl⟩
  obtain ⟨b, o, rfl, hb⟩ := hS.bytes (by simp)
  have hb0 := hb 0 y0 rfl
  refine Rn.seq (Rn.reg (Rn.v rfl rfl rfl rfl (V.mv rfl) (Rn.v rfl rfl rfl rfl (V.ixA 0 Try.underlying22 Try.sizeOf5 rfl rfl rfl (by omega)) (Rn.v rfl rfl rfl rfl (V.ldR0 Try.isAgg5 rfl hb0 rfl) (Rn.v rfl rfl rfl rfl (V.neq rfl rfl) (Rn.v rfl rfl rfl rfl (V.as rfl) (Rn.regEnd ?_)))))))
  refine Rn.condD rfl (fun h1 => ?_) (fun h1 => ?_)
  have e1 := firstF_ne y0 t (fun hh => h1 (by rw [hh]; rfl))
  refine Rn.seq (Rn.reg (Rn.v rfl rfl rfl rfl (V.as rfl) (Rn.v rfl rfl rfl rfl (V.as rfl) (Rn.v rfl rfl rfl rfl (V.as rfl) (Rn.regEnd ?_)))))
  refine Rn.ret3 Try.func37 rfl rfl rfl rfl ?_
  exact ⟨none, 0, by rw [e1]; rfl, by rw [e1]; exact Own.nil _ _ _ _ _, Ext.refl _⟩
  obtain rfl : y0 = 165 := UInt8.toNat_inj.1 (by have : ((165 : UInt8).toNat : Int) = 165 := rfl; omega)
  refine Rn.seq (Rn.reg (Rn.v rfl rfl rfl rfl (V.mv rfl) (Rn.v rfl rfl rfl rfl (V.lenV Try.underlying22 rfl) (Rn.v rfl rfl rfl rfl (V.lss rfl rfl) (Rn.v rfl rfl rfl rfl (V.as rfl) (Rn.regEnd ?_))))))
  refine Rn.condD rfl (fun h2 => ?_) (fun h2 => ?_)
  have e1 := firstF_short t (by simp only [List.length_cons] at h2; omega)
  refine Rn.seq (Rn.reg (Rn.v rfl rfl rfl rfl (V.as rfl) (Rn.v rfl rfl rfl rfl (V.as rfl) (Rn.v rfl rfl rfl rfl (V.as rfl) (Rn.regEnd ?_)))))
  refine Rn.ret3 Try.func37 rfl rfl rfl rfl ?_
  exact ⟨none, 0, by rw [e1]; rfl, by rw [e1]; exact Own.nil _ _ _ _ _, Ext.refl _⟩
  obtain ⟨y1, y2, y3, y4, y5, y6, y7, y8, r, rfl⟩ := long8 t (by simp only [List.length_cons] at h2; omega)
  have hll : (165 :: y1 :: y2 :: y3 :: y4 :: y5 :: y6 :: y7 :: y8 :: r).length = 9 + r.length := by simp only [List.length_cons]; omega
  refine Rn.skip (Rn.inBlock (Rn.seq (Rn.reg (Rn.v rfl rfl rfl rfl (V.mv rfl) (Rn.cutSl 1 (165 :: y1 :: y2 :: y3 :: y4 :: y5 :: y6 :: y7 :: y8 :: r).length rfl rfl rfl Try.underlying22 Try.sizeOf5 rfl hS rfl hmc rfl ⟨_, rfl, by simp⟩ rfl (by omega) (by omega) ?_)))))
  intro A1 s1 k1
  refine Rn.cl ck50 rfl rfl rfl rfl (number_spec _ _ _ _ y1 y2 y3 y4 (y5 :: y6 :: y7 :: y8 :: r) _ (by rw [List.take_length]; rfl) rfl s1) ?_
  rintro _ w2 ⟨rfl, x2⟩
  refine ⟨_, rfl, ?_⟩
  refine Rn.v rfl rfl rfl rfl (V.as rfl) (Rn.regEnd (Rn.seq (Rn.block (Rn.seq (Rn.reg (Rn.v rfl rfl rfl rfl (V.mv rfl) (Rn.v rfl rfl rfl rfl (V.gtr rfl rfl) (Rn.v rfl rfl rfl rfl (V.as rfl) (Rn.regEnd ?_)))))))))
  have hn4 := num4_lt y1 y2 y3 y4
  refine Rn.condD rfl (fun h3 => ?_) (fun h3 => ?_)
  have e1 := firstF_large y1 y2 y3 y4 y5 y6 y7 y8 r (by omega)
  refine Rn.seq (Rn.reg (Rn.v rfl rfl rfl rfl (V.as rfl) (Rn.v rfl rfl rfl rfl (V.as rfl) (Rn.v rfl rfl rfl rfl (V.as rfl) (Rn.regEnd ?_)))))
  refine Rn.ret3 Try.func37 rfl rfl rfl rfl ?_
  exact ⟨none, 0, by rw [e1]; rfl, by rw [e1]; exact Own.nil _ _ _ _ _, x2⟩
  refine Rn.seq (Rn.reg (Rn.v rfl rfl rfl rfl (V.mv rfl) (Rn.v rfl rfl rfl rfl (V.cvI Try.underlying110 Try.underlying3 rfl (by first | exact wc32 _ | exact w64 (by omega) (by omega))) (Rn.v rfl rfl rfl rfl (V.mv rfl) (Rn.v rfl rfl rfl rfl (V.lenV Try.underlying22 rfl) (Rn.v rfl rfl rfl rfl (V.subI rfl rfl (w64 (by omega) (by omega))) (Rn.v rfl rfl rfl rfl (V.gtr rfl rfl) (Rn.v rfl rfl rfl rfl (V.as rfl) (Rn.regEnd ?_)))))))))
  refine Rn.condD rfl (fun h4 => ?_) (fun h4 => ?_)
  have e1 := firstF_less y1 y2 y3 y4 y5 y6 y7 y8 r (by omega) (by omega)
  refine Rn.seq (Rn.reg (Rn.v rfl rfl rfl rfl (V.as rfl) (Rn.v rfl rfl rfl rfl (V.as rfl) (Rn.v rfl rfl rfl rfl (V.as rfl) (Rn.regEnd ?_)))))
  refine Rn.ret3 Try.func37 rfl rfl rfl rfl ?_
  exact ⟨none, 0, by rw [e1]; rfl, by rw [e1]; exact Own.nil _ _ _ _ _, x2⟩
  refine Rn.skip (Rn.inBlock (Rn.seq (Rn.reg (Rn.v rfl rfl rfl rfl (V.mv rfl) (Rn.v rfl rfl rfl rfl (V.cvI Try.underlying110 Try.underlying3 rfl (by first | exact wc32 _ | exact w64 (by omega) (by omega))) (Rn.v rfl rfl rfl rfl (V.addI rfl rfl (w64 (by omega) (by omega))) (Rn.v rfl rfl rfl rfl (V.as rfl) (Rn.regEnd (Rn.seq (Rn.seq ?_))))))))))
  refine Rn.drawE rfl ?_
  intro w3 x3
  refine RH.take 0 (by kernel_rfl) rfl rfl rfl rfl (fun w' hDr => V.mv rfl) ?_
  have s4 := ((hS.ext (x2.trans x3))).cut (c := c) 0 5 (by omega) (by omega)
  refine RH.take 1 (by kernel_rfl) rfl rfl rfl rfl (fun w' hDr => V.cutV 0 5 Try.underlying22 Try.sizeOf5 rfl rfl ⟨_, rfl, by simp⟩ (by omega) (by omega)) ?_
  refine RH.sayL (t := 36) (List.drop 0 (List.take 5 (165 :: y1 :: y2 :: y3 :: y4 :: y5 :: y6 :: y7 :: y8 :: r))).length rfl (by rw [List.length_drop, List.length_take]; omega) ?_
  refine RH.take 2 (by kernel_rfl) rfl rfl rfl rfl (fun w' hDr => V.mv rfl) ?_
  refine RH.take 3 (by kernel_rfl) rfl rfl rfl rfl (fun w' hDr => V.mv rfl) ?_
  have s5 := ((hS.ext (x2.trans x3))).cut (c := c) 9 (9 + num4 y1 y2 y3 y4) (by omega) (by omega)
  refine RH.take 4 (by kernel_rfl) rfl rfl rfl rfl (fun w' hDr => V.cutV 9 (9 + num4 y1 y2 y3 y4) Try.underlying22 Try.sizeOf5 rfl ⟨_, rfl, by simp⟩ ⟨_, rfl, by simp⟩ (by omega) (by omega)) ?_
  refine RH.sayL (t := 39) (List.drop 9 (List.take (9 + num4 y1 y2 y3 y4) (165 :: y1 :: y2 :: y3 :: y4 :: y5 :: y6 :: y7 :: y8 :: r))).length rfl (by rw [List.length_drop, List.length_take]; omega) ?_
  refine RH.take 6 (by kernel_rfl) rfl rfl rfl rfl (fun w' hDr => V.mv rfl) ?_
  have s6 := ((hS.ext (x2.trans x3))).cut (c := c) 5 (165 :: y1 :: y2 :: y3 :: y4 :: y5 :: y6 :: y7 :: y8 :: r).length (by omega) (by omega)
  refine RH.take 7 (by kernel_rfl) rfl rfl rfl rfl (fun w' hDr => V.cutV 5 (165 :: y1 :: y2 :: y3 :: y4 :: y5 :: y6 :: y7 :: y8 :: r).length Try.underlying22 Try.sizeOf5 rfl ⟨_, rfl, by simp⟩ rfl (by omega) (by omega)) ?_
  refine RH.sayL (t := 42) (List.drop 5 (List.take (165 :: y1 :: y2 :: y3 :: y4 :: y5 :: y6 :: y7 :: y8 :: r).length (165 :: y1 :: y2 :: y3 :: y4 :: y5 :: y6 :: y7 :: y8 :: r))).length rfl (by rw [List.length_drop, List.length_take]; omega) ?_
  refine RH.cl ck51 5 (by kernel_rfl) rfl rfl rfl rfl (sum_spec _ _ _ _ _ _ _ _ _ (by simp; try omega) (by simp; try omega) rfl rfl s4 s5) ?_
  rintro _ w7 ⟨rfl, x7⟩
  refine ⟨_, rfl, x7, ?_⟩
  refine RH.cl ck50 8 (by kernel_rfl) rfl rfl rfl rfl (number_spec _ _ _ _ y5 y6 y7 y8 r _ (by rw [List.take_length]; rfl) rfl (s6.ext x7)) ?_
  rintro _ w8 ⟨rfl, x8⟩
  refine ⟨_, rfl, (x7).trans x8, ?_⟩
  refine RH.take 9 (by kernel_rfl) rfl rfl rfl rfl (fun w' hDr => V.neq rfl rfl) ?_
  refine RH.done (by kernel_rfl) (fun xd8 => ?_)
  refine Rn.condD rfl (fun h5 => ?_) (fun h5 => ?_)
  rw [sum_first y1 y2 y3 y4 y5 y6 y7 y8 r (by omega)] at h5
  have e1 := firstF_sum y1 y2 y3 y4 y5 y6 y7 y8 r (by omega) (by omega) (fun hh => h5 (by rw [hh]))
  refine Rn.seq (Rn.reg (Rn.v rfl rfl rfl rfl (V.as rfl) (Rn.v rfl rfl rfl rfl (V.as rfl) (Rn.v rfl rfl rfl rfl (V.as rfl) (Rn.regEnd ?_)))))
  refine Rn.ret3 Try.func37 rfl rfl rfl rfl ?_
  exact ⟨none, 0, by rw [e1]; rfl, by rw [e1]; exact Own.nil _ _ _ _ _, (x2.trans (x3.trans (x7.trans x8)))⟩
  rw [sum_first y1 y2 y3 y4 y5 y6 y7 y8 r (by omega)] at h5
  have e1 := firstF_ok y1 y2 y3 y4 y5 y6 y7 y8 r (by omega) (by omega) (by omega)
  refine Rn.skip (Rn.seq (Rn.reg (Rn.v rfl rfl rfl rfl (V.mv rfl) (Rn.v rfl rfl rfl rfl (V.mv rfl) (Rn.cutSl 9 (9 + num4 y1 y2 y3 y4) rfl rfl rfl Try.underlying22 Try.sizeOf5 rfl (hS.ext (x2.trans (x3.trans (x7.trans x8)))) rfl hmc rfl ⟨_, rfl, by simp⟩ ⟨_, rfl, by simp⟩ (by omega) (by omega) ?_)))))
  intro A9 s9 k9
  refine Rn.cl ck17 rfl rfl rfl rfl (clone_spec _ _ _ _ (by simp; try omega) s9) ?_
  rintro _ w10 ⟨A10, c10, rfl, o10, x10⟩
  refine ⟨_, rfl, ?_⟩
  refine Rn.v rfl rfl rfl rfl (V.mv rfl) (Rn.v rfl rfl rfl rfl (V.as rfl) (Rn.v rfl rfl rfl rfl (V.as rfl) (Rn.v rfl rfl rfl rfl (V.as rfl) (Rn.regEnd ?_))))
  refine Rn.ret3 Try.func37 rfl rfl rfl rfl ?_
  exact ⟨A10, c10, by rw [e1, pay_first]; rfl, by rw [e1]; rw [pay_first] at o10; exact o10.lower ((x2.trans (x3.trans (x7.trans x8)))).size, (x2.trans (x3.trans (x7.trans (x8.trans x10))))⟩

end Go.Proofs.Ytpeloppldpdonaa
