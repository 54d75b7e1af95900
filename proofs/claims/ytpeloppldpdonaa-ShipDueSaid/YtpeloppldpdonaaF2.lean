/-
  Walks of functions of the program, group F2: what each call answers, and what stays of the memory.
-/
import Derived.Test.YtpeloppldpdonaaF1
namespace Go.Proofs.Ytpeloppldpdonaa
open Go Go.RowKit Go.Wk
theorem ck6 : CallOk Try.prog 6 := ⟨_, _, Try.func6, rfl, by kernel_rfl⟩
theorem ck8 : CallOk Try.prog 8 := ⟨_, _, Try.func8, rfl, by kernel_rfl⟩
theorem ck10 : CallOk Try.prog 10 := ⟨_, _, Try.func10, rfl, by kernel_rfl⟩
theorem ck11 : CallOk Try.prog 11 := ⟨_, _, Try.func11, rfl, by kernel_rfl⟩
theorem ck15 : CallOk Try.prog 15 := ⟨_, _, Try.func15, rfl, by kernel_rfl⟩
theorem st44 : StOk Try.prog 44 [.int .i64 0, .int .i64 0] [(0, 1), (1, 1)] := ⟨Try.zeroValue44, _, Try.underlying44, fun w => by kernel_rfl⟩
set_option maxRecDepth 20000 in
theorem awake_spec (w : World) : Calls Try.prog 5 #[] w fun x w' => x = .returned (.bool true) ∧ Ext w w' := by
  refine Rn.enter Try.func5 rfl rfl (Nat.le_of_ble_eq_true rfl) ?_
  refine Rn.seq (Rn.reg (Rn.v rfl rfl rfl rfl (V.as rfl) (Rn.regEnd (Rn.seq (Rn.reg (Rn.cl ck6 rfl rfl rfl rfl (dnew_spec (D := No) none 0 0 [] 1000 _ (by decide) rfl (Sl.nil _ _ _ _)) ?_))))))
  rintro _ w1 ⟨(⟨rfl, hnd1⟩ | ⟨s1, b1, F1, hnd1, rfl, d1, hF1⟩), x1⟩
  have hs1 := x1.size
  refine ⟨_, rfl, ?_⟩
  refine Rn.v rfl rfl rfl rfl (V.as rfl) (Rn.regEnd (Rn.seq (Rn.seq (Rn.reg (Rn.v rfl rfl rfl rfl (V.mv rfl) (Rn.v rfl rfl rfl rfl (V.eqlP Try.underlying27 rfl rfl) (Rn.regEnd ?_)))))))
  refine Rn.condS rfl (fun q1 => ?_) (fun q1 => ?_)
  rw [newD_0] at hnd1; cases hnd1
  rw [newD_0] at hnd1; cases hnd1
  have hs1 := x1.size
  rw [newD_0] at hnd1
  cases hnd1
  refine ⟨_, rfl, ?_⟩
  refine Rn.v rfl rfl rfl rfl (V.as rfl) (Rn.regEnd (Rn.seq (Rn.seq (Rn.reg (Rn.v rfl rfl rfl rfl (V.mv rfl) (Rn.v rfl rfl rfl rfl (V.eqlP Try.underlying27 rfl rfl) (Rn.regEnd ?_)))))))
  refine Rn.condS rfl (fun q1 => ?_) (fun q1 => ?_)
  cases q1
  have hlt1 := d1.lt
  refine Rn.skip (Rn.seq (Rn.reg (Rn.v rfl rfl rfl rfl (V.mv rfl) (Rn.cl ck8 rfl rfl rfl rfl (open_ship_spec _ (ok_0 1 (by omega)) d1) ?_))))
  rintro _ w2 ⟨F2, (⟨ho2, rfl⟩ | ⟨a2, q2, ho2, he2, ha2, rfl, mQ2, hq2, hnq2⟩), d2, x2, hF2⟩
  have e2 : Ext w w2 := (x1).trans' x2 (fun x hx => .inr (by exact hF1 _ hx))
  have hs2 := x2.size
  refine ⟨_, rfl, ?_⟩
  refine Rn.v rfl rfl rfl rfl (V.mv rfl) (Rn.v rfl rfl rfl rfl (V.ext rfl rfl) (Rn.v rfl rfl rfl rfl (V.ext rfl rfl) (Rn.v rfl rfl rfl rfl (V.as rfl) (Rn.v rfl rfl rfl rfl (V.as rfl) (Rn.regEnd (Rn.seq (Rn.seq (Rn.reg (Rn.v rfl rfl rfl rfl (V.mv rfl) (Rn.v rfl rfl rfl rfl (V.eqlP Try.underlying31 rfl rfl) (Rn.v rfl rfl rfl rfl (V.mv rfl) ?_)))))))))))
  rw [openS_0] at ho2; cases ho2
  have e2 : Ext w w2 := (x1).trans' x2 (fun x hx => .inr (by exact hF1 _ hx))
  have hs2 := x2.size
  rw [openS_0] at ho2 d2
  cases ho2
  refine ⟨_, rfl, ?_⟩
  have gF2 : ∀ x, F2 x → w.heap.size ≤ x := fun x hx => by rcases hF2 x hx with hh | hh; exact hF1 x hh; omega
  have hlt2 := d2.lt
  obtain ⟨s3, hs3'⟩ : ∃ s3, (PD.d0.save ackB (fix8 (UInt64.ofNat (3 : Int).toNat))).1 = s3 := ⟨_, rfl⟩
  have htk1 : PD.d0.takeS 0 3 5 = (s3, 3, true, 0) := by rw [← hs3']; exact takeS_0 3 5 (by decide) (by decide)
  have ok3 : s3.ok 60 := by rw [← hs3']; exact PD.ok.save (n := 60) (ok_0 66 (by omega)) _ _
  have htk2 := takeS_no s3 3 2 5 (by decide)
  have htk3 := takeS_no s3 3 6 5 (by decide)
  refine Rn.v rfl rfl rfl rfl (V.mv rfl) (Rn.v rfl rfl rfl rfl (V.ext rfl rfl) (Rn.v rfl rfl rfl rfl (V.ext rfl rfl) (Rn.v rfl rfl rfl rfl (V.as rfl) (Rn.v rfl rfl rfl rfl (V.as rfl) (Rn.regEnd (Rn.seq (Rn.seq (Rn.reg (Rn.v rfl rfl rfl rfl (V.mv rfl) (Rn.v rfl rfl rfl rfl (V.eqlP Try.underlying31 rfl rfl) (Rn.v rfl rfl rfl rfl (V.mv rfl) ?_)))))))))))
  refine Rn.part (t := 20) rfl (fun p1 => ?_) (fun p1 => ?_)
  cases p1
  refine Rn.v rfl rfl rfl rfl (V.mv rfl) (Rn.v rfl rfl rfl rfl (V.neq rfl rfl) (Rn.v rfl rfl rfl rfl (V.pkF rfl rfl) (Rn.regEnd ?_)))
  refine Rn.condD rfl (fun p2 => ?_) (fun p2 => ?_)
  exact absurd rfl p2
  dsimp only at d2 mQ2
  refine Rn.skip (Rn.seq (Rn.reg (Rn.v rfl rfl rfl rfl (V.mv rfl) (Rn.cl ck11 rfl rfl rfl rfl (take_spec q2 0 3 5 _ (by decide) (ok_0 6 (by omega)) mQ2 hnq2 d2) ?_))))
  rintro _ w3 ⟨F3, rfl, d3, mQ3, hnq3, x3, hF3⟩
  have e3 : Ext w w3 := (e2).trans' x3 (fun x hx => .inr (by rcases hx with hh | hh; (first | exact gF2 x hh | exact gF3 x hh | exact gF4 x hh); (subst hh; omega)))
  have hs3 := x3.size
  rw [htk1] at d3 mQ3
  rw [htk1]
  dsimp only at d3 mQ3
  have gF3 : ∀ x, F3 x → w.heap.size ≤ x := fun x hx => by rcases hF3 x hx with hh | hh; (first | exact gF2 x hh | exact gF3 x hh | exact gF4 x hh); omega
  refine ⟨_, rfl, ?_⟩
  refine Rn.v rfl rfl rfl rfl (V.mv rfl) (Rn.v rfl rfl rfl rfl (V.ext rfl rfl) (Rn.v rfl rfl rfl rfl (V.ext rfl rfl) (Rn.v rfl rfl rfl rfl (V.as rfl) (Rn.v rfl rfl rfl rfl (V.as rfl) (Rn.regEnd (Rn.seq (Rn.reg (Rn.v rfl rfl rfl rfl (V.mv rfl) (Rn.cl ck11 rfl rfl rfl rfl (take_spec q2 3 2 5 _ (by decide) (ok3.mono (by omega)) mQ3 hnq3 d3) ?_)))))))))
  rintro _ w4 ⟨F4, rfl, d4, mQ4, hnq4, x4, hF4⟩
  have e4 : Ext w w4 := (e3).trans' x4 (fun x hx => .inr (by rcases hx with hh | hh; (first | exact gF2 x hh | exact gF3 x hh | exact gF4 x hh); (subst hh; omega)))
  have hs4 := x4.size
  rw [htk2] at d4 mQ4
  rw [htk2]
  dsimp only at d4 mQ4
  have gF4 : ∀ x, F4 x → w.heap.size ≤ x := fun x hx => by rcases hF4 x hx with hh | hh; (first | exact gF2 x hh | exact gF3 x hh | exact gF4 x hh); omega
  refine ⟨_, rfl, ?_⟩
  refine Rn.v rfl rfl rfl rfl (V.mv rfl) (Rn.v rfl rfl rfl rfl (V.ext rfl rfl) (Rn.v rfl rfl rfl rfl (V.ext rfl rfl) (Rn.v rfl rfl rfl rfl (V.as rfl) (Rn.v rfl rfl rfl rfl (V.as rfl) (Rn.regEnd (Rn.seq (Rn.reg (Rn.v rfl rfl rfl rfl (V.mv rfl) (Rn.cl ck11 rfl rfl rfl rfl (take_spec q2 3 6 5 _ (by decide) (ok3.mono (by omega)) mQ4 hnq4 d4) ?_)))))))))
  rintro _ w5 ⟨F5, rfl, d5, mQ5, hnq5, x5, hF5⟩
  have e5 : Ext w w5 := (e4).trans' x5 (fun x hx => .inr (by rcases hx with hh | hh; (first | exact gF2 x hh | exact gF3 x hh | exact gF4 x hh); (subst hh; omega)))
  have hs5 := x5.size
  rw [htk3] at d5 mQ5
  rw [htk3]
  dsimp only at d5 mQ5
  have gF5 : ∀ x, F5 x → w.heap.size ≤ x := fun x hx => by rcases hF5 x hx with hh | hh; (first | exact gF2 x hh | exact gF3 x hh | exact gF4 x hh); omega
  refine ⟨_, rfl, ?_⟩
  refine Rn.v rfl rfl rfl rfl (V.mv rfl) (Rn.v rfl rfl rfl rfl (V.ext rfl rfl) (Rn.v rfl rfl rfl rfl (V.ext rfl rfl) (Rn.v rfl rfl rfl rfl (V.as rfl) (Rn.v rfl rfl rfl rfl (V.as rfl) (Rn.regEnd (Rn.seq (Rn.reg (Rn.v rfl rfl rfl rfl (V.mv rfl) (Rn.v rfl rfl rfl rfl (V.mv rfl) ?_)))))))))
  refine Rn.part (t := 40) rfl (fun p3 => ?_) (fun p3 => ?_)
  refine Rn.v rfl rfl rfl rfl (V.mv rfl) (Rn.v rfl rfl rfl rfl (V.notB rfl) (Rn.v rfl rfl rfl rfl (V.pkT rfl rfl) (Rn.v rfl rfl rfl rfl (V.mv rfl) ?_)))
  refine Rn.part (t := 44) rfl (fun p4 => ?_) (fun p4 => ?_)
  refine Rn.v rfl rfl rfl rfl (V.mv rfl) (Rn.v rfl rfl rfl rfl (V.notB rfl) (Rn.v rfl rfl rfl rfl (V.pkT rfl rfl) (Rn.v rfl rfl rfl rfl (V.mv rfl) ?_)))
  refine Rn.part (t := 48) rfl (fun p5 => ?_) (fun p5 => ?_)
  refine Rn.v rfl rfl rfl rfl (V.mv rfl) (Rn.cl ck10 rfl rfl rfl rfl (ack_spec q2 _ mQ5) ?_)
  rintro _ _ ⟨rfl, rfl⟩
  refine ⟨_, rfl, ?_⟩
  refine Rn.v rfl rfl rfl rfl (V.eql rfl rfl) (Rn.v rfl rfl rfl rfl (V.pkT rfl rfl) (Rn.v rfl rfl rfl rfl (V.mv rfl) ?_))
  refine Rn.partD (t := 53) rfl (fun p6 => ?_) (fun p6 => ?_)
  refine Rn.v rfl rfl rfl rfl (V.bldS st44 rfl rfl) (Rn.v rfl rfl rfl rfl (V.bldS st44 rfl rfl) (Rn.bslS rfl rfl rfl Try.underlying40 el44 rfl rfl rfl rfl (by first | exact szs rfl | (simp [Value.cells]; done)) (by decide) ?_))
  intro b7 w7 hb7 m7 x7
  have hz7 : w.heap.size ≤ b7 := by have := (e5).size; omega
  have hl7 : b7 < w7.heap.size := m7.lt
  have hs7 := x7.size
  refine Rn.cl ck15 rfl rfl rfl rfl (left_spec2 _ _ _ [(0, 3), (3, 4)] _ _ (by decide) rfl (span2 m7)) ?_
  rintro _ w8 ⟨rfl, x8⟩
  have hs8 := x8.size
  refine ⟨_, rfl, ?_⟩
  refine Rn.v rfl rfl rfl rfl (V.eql rfl rfl) (Rn.v rfl rfl rfl rfl (V.pkT rfl rfl) (Rn.v rfl rfl rfl rfl (V.as rfl) (Rn.regEnd ?_)))
  refine Rn.ret1 Try.func5 rfl rfl ?_
  exact ⟨rfl, (e5.trans (x7.trans x8))⟩
  exact absurd rfl p6
  cases p5
  cases p4
  cases p3

end Go.Proofs.Ytpeloppldpdonaa
