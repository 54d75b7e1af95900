/-
  Walks of functions of the program, group A2: what each call answers, and what stays of the memory.
-/
import Derived.Test.YtpeloppldpdonaaA1
namespace Go.Proofs.Ytpeloppldpdonaa
open Go Go.RowKit Go.Wk
theorem ck58 : CallOk Try.prog 58 := ⟨_, _, Try.func58, rfl, by kernel_rfl⟩
theorem el5 : ElOk Try.prog 5 1 1 := elOk_of (by kernel_rfl) (by decide)
set_option maxRecDepth 20000 in
theorem of_spec (A : Option Addr) (c : Nat) (l : List UInt8) (w : World) (hl : l.length ≤ 4294967296) (hS : Sl All w A byteR l) :
    Calls Try.prog 59 #[.slice A l.length c] w fun x w' => x = .returned (I32 (moreC 0 l)) ∧ Ext w w' := by
  refine Rn.enter Try.func59 rfl rfl (Nat.le_of_ble_eq_true rfl) ?_
  refine Rn.seq (Rn.reg (Rn.v rfl rfl rfl rfl (V.as rfl) (Rn.regEnd (Rn.seq (Rn.reg (Rn.v rfl rfl rfl rfl (V.mv rfl) (Rn.cl ck58 rfl rfl rfl rfl (more_spec 0 _ _ _ _ hl hS) ?_)))))))
  rintro _ w1 ⟨rfl, x1⟩
  refine ⟨_, rfl, ?_⟩
  refine Rn.v rfl rfl rfl rfl (V.as rfl) (Rn.regEnd ?_)
  refine Rn.ret1 Try.func59 rfl rfl ?_
  exact ⟨rfl, x1⟩

set_option maxRecDepth 20000 in
theorem clone_spec {D : Nat → Prop} (A : Option Addr) (c : Nat) (l : List UInt8) (w : World) (hl : l.length ≤ 4294967296) (hS : Sl D w A byteR l) :
    Calls Try.prog 17 #[.slice A l.length c] w fun x w' => ∃ A' c', x = .returned (.slice A' l.length c') ∧ Own w.heap.size No w' 5 A' c' byteR l ∧ Ext w w' := by
  refine Rn.enter Try.func17 rfl rfl (Nat.le_of_ble_eq_true rfl) ?_
  refine Rn.seq (Rn.reg (Rn.v rfl rfl rfl rfl (V.as rfl) (Rn.regEnd (Rn.seq (Rn.seq (Rn.reg (Rn.v rfl rfl rfl rfl (V.mv rfl) (Rn.v rfl rfl rfl rfl (V.eqlV Try.underlying22 rfl rfl) (Rn.regEnd ?_)))))))))
  refine Rn.condS rfl (fun hn => ?_) (fun hn => ?_)
  obtain rfl : A = none := by simpa using hn
  obtain rfl := hS.nil_of
  refine Rn.seq (Rn.reg (Rn.v rfl rfl rfl rfl (V.as rfl) (Rn.regEnd ?_)))
  refine Rn.ret1 Try.func17 rfl rfl ?_
  exact ⟨none, 0, rfl, Own.nil _ _ _ _ _, Ext.refl _⟩
  refine Rn.skip (Rn.seq (Rn.reg (Rn.bslS rfl rfl rfl Try.underlying22 el5 rfl rfl rfl rfl (by first | exact szs rfl | (simp [Value.cells]; done)) (by decide) ?_)))
  intro b1 w1 hb1 m1 x1
  have o1 : Own w.heap.size No w1 5 (some ⟨b1, 0, none⟩) 0 byteR [] := own_bytes [] m1 (by omega) (Nat.le_of_ble_eq_true rfl)
  refine Rn.v rfl rfl rfl rfl (V.mv rfl) (Rn.appF byte_flat rfl rfl rfl Try.underlying22 el5 rfl rfl rfl o1 (hS.ext x1) rfl (by first | exact (x1).size | exact Nat.zero_le _) (by first | omega | (simp; done) | (simp; omega)) (by first | omega | (simp; done) | (simp; omega)) ?_)
  intro A2 c2 w2 o2 x2 q2
  have e2 : Ext w w2 := (x1).trans' x2 (fun x hx => .inr (by exact (o1.base x hx).1))
  refine Rn.v rfl rfl rfl rfl (V.as rfl) (Rn.regEnd ?_)
  refine Rn.ret1 Try.func17 rfl rfl ?_
  exact ⟨A2, c2, by simp, by simpa using o2, e2⟩

end Go.Proofs.Ytpeloppldpdonaa
