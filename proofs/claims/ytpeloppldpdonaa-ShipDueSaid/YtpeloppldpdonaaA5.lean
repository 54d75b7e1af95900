/-
  Walks of functions of the program, group A5: what each call answers, and what stays of the memory.
-/
import Derived.Test.YtpeloppldpdonaaA4
namespace Go.Proofs.Ytpeloppldpdonaa
open Go Go.RowKit Go.Wk
theorem ck51 : CallOk Try.prog 51 := ⟨_, _, Try.func51, rfl, by kernel_rfl⟩
theorem ck55 : CallOk Try.prog 55 := ⟨_, _, Try.func55, rfl, by kernel_rfl⟩
set_option maxRecDepth 20000 in
theorem wrap_spec {D : Nat → Prop} (A : Option Addr) (c : Nat) (l : List UInt8) (w : World) (hl : l.length ≤ 4294967296) (hS : Sl D w A byteR l) :
    Calls Try.prog 42 #[.slice A l.length c] w fun x w' => ∃ A' c', x = (if 65536 < l.length then .returned (.tuple #[.slice none 0 0, .int .i64 4]) else .returned (.tuple #[.slice A' (wrapL l).length c', .int .i64 0])) ∧ (¬ 65536 < l.length → Own w.heap.size No w' 5 A' c' byteR (wrapL l)) ∧ Ext w w' := by
  refine Rn.enter Try.func42 rfl rfl (Nat.le_of_ble_eq_true rfl) ?_
  refine Rn.seq (Rn.reg (Rn.v rfl rfl rfl rfl (V.as rfl) (Rn.v rfl rfl rfl rfl (V.as rfl) (Rn.regEnd (Rn.seq (Rn.seq (Rn.reg (Rn.v rfl rfl rfl rfl (V.mv rfl) (Rn.v rfl rfl rfl rfl (V.lenV Try.underlying22 rfl) (Rn.v rfl rfl rfl rfl (V.gtr rfl rfl) (Rn.regEnd ?_)))))))))))
  refine Rn.condD rfl (fun hg => ?_) (fun hg => ?_)
  refine Rn.seq (Rn.reg (Rn.v rfl rfl rfl rfl (V.as rfl) (Rn.v rfl rfl rfl rfl (V.as rfl) (Rn.regEnd ?_))))
  refine Rn.ret2 Try.func42 rfl rfl rfl ?_
  exact ⟨none, 0, by rw [if_pos (by omega)], fun hh => absurd hh (by omega), Ext.refl _⟩
  have hle : fourU (UInt32.ofNat l.length) = le4 l.length := by rw [fourU_eq, UInt32.toNat_ofNat', Nat.mod_eq_of_lt (by omega)]
  refine Rn.skip (Rn.seq (Rn.reg (Rn.bslS rfl rfl rfl Try.underlying22 el5 rfl rfl rfl rfl (by first | exact szs rfl | (simp [Value.cells]; done)) (by decide) ?_)))
  intro b1 w1 hb1 m1 x1
  have o1 : Own w.heap.size No w1 5 (some ⟨b1, 0, none⟩) 1 byteR [165] := own_bytes [165] m1 (by omega) (Nat.le_of_ble_eq_true rfl)
  refine Rn.v rfl rfl rfl rfl (V.mv rfl) (Rn.v rfl rfl rfl rfl (V.lenV Try.underlying22 rfl) (Rn.v rfl rfl rfl rfl (V.to (V.cvI Try.underlying3 Try.underlying110 rfl (wu32 (by omega) (by omega))) (show _ = I32 (UInt32.ofNat l.length) by simp only [I32, UInt32.toNat_ofNat']; congr 1; omega)) (Rn.cl ck55 rfl rfl rfl rfl (four_spec _ _) ?_)))
  rintro _ w2 ⟨A2, c2, rfl, o2, x2⟩
  refine ⟨_, rfl, ?_⟩
  refine Rn.appF byte_flat rfl rfl rfl Try.underlying22 el5 rfl rfl rfl (o1.ext x2) o2.sl rfl (by first | exact ((x1.trans x2)).size | exact Nat.zero_le _) (by simp) (by simp) ?_
  intro A3 c3 w3 o3 x3 q3
  have e3 : Ext w w3 := ((x1.trans x2)).trans' x3 (fun x hx => .inr (by exact ((o1.ext x2).base x hx).1))
  rw [hle] at o3
  refine Rn.v rfl rfl rfl rfl (V.as rfl) (Rn.regEnd (Rn.seq (Rn.reg (Rn.v rfl rfl rfl rfl (V.mv rfl) (Rn.v rfl rfl rfl rfl (V.mv rfl) (Rn.v rfl rfl rfl rfl (V.mv rfl) (Rn.cl ck51 rfl rfl rfl rfl (sum_spec _ _ _ _ _ _ _ _ _ (by first | omega | (simp; done) | (simp; omega)) (by first | omega | (simp; done) | (simp; omega)) rfl rfl o3.sl (hS.ext e3)) ?_)))))))
  rintro _ w4 ⟨rfl, x4⟩
  refine ⟨_, rfl, ?_⟩
  refine Rn.cl ck55 rfl rfl rfl rfl (four_spec _ _) ?_
  rintro _ w5 ⟨A5, c5, rfl, o5, x5⟩
  refine ⟨_, rfl, ?_⟩
  refine Rn.appF byte_flat rfl rfl rfl Try.underlying22 el5 rfl rfl rfl ((o3.ext x4).ext x5) o5.sl rfl (by first | exact ((e3.trans (x4.trans x5))).size | exact Nat.zero_le _) (by simp) (by simp) ?_
  intro A6 c6 w6 o6 x6 q6
  have e6 : Ext w w6 := ((e3.trans (x4.trans x5))).trans' x6 (fun x hx => .inr (by exact (((o3.ext x4).ext x5).base x hx).1))
  refine Rn.v rfl rfl rfl rfl (V.as rfl) (Rn.regEnd (Rn.seq (Rn.reg (Rn.v rfl rfl rfl rfl (V.mv rfl) (Rn.v rfl rfl rfl rfl (V.mv rfl) (Rn.appF byte_flat rfl rfl rfl Try.underlying22 el5 rfl rfl rfl o6 (hS.ext e6) rfl (by first | exact (e6).size | exact Nat.zero_le _) (by first | omega | (simp; done) | (simp; omega)) (by first | omega | (simp; done) | (simp; omega)) ?_))))))
  intro A7 c7 w7 o7 x7 q7
  have e7 : Ext w w7 := (e6).trans' x7 (fun x hx => .inr (by exact (o6.base x hx).1))
  refine Rn.v rfl rfl rfl rfl (V.as rfl) (Rn.v rfl rfl rfl rfl (V.as rfl) (Rn.regEnd ?_))
  have hw : [165] ++ le4 l.length ++ fourU (ofR ([165] ++ le4 l.length ++ l)) ++ l = wrapL l := by rw [fourU_eq]; rfl
  rw [hw] at o7
  refine Rn.ret2 Try.func42 rfl rfl rfl ?_
  exact ⟨A7, c7, by rw [if_neg (by omega), wrapL_length], fun _ => o7, e7⟩

end Go.Proofs.Ytpeloppldpdonaa
