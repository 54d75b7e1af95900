/-
  Walks of functions of the program, group C1: what each call answers, and what stays of the memory.
-/
import Derived.Test.YtpeloppldpdonaaB2
namespace Go.Proofs.Ytpeloppldpdonaa
open Go Go.RowKit Go.Wk

set_option maxRecDepth 20000 in
theorem begin_spec {b mb : Nat} {ms : Ms} {ck : Nat} {bss : List (List Nat)} {F : Nat → Prop} {s : PD} (w : World) (hc : s.calls < 4611686018427387904) (h : DkP 54 59 5 w b mb ms ck bss F s) :
    Calls Try.prog 56 #[.pointer (some ⟨b, 0, none⟩)] w fun x w' => x = .returned (.int .i64 s.begin.2) ∧ DkP 54 59 5 w' b mb ms ck bss F s.begin.1 ∧ Fr (fun x => x = b) w w' := by
  have hB := h.blk
  refine Rn.enter Try.func56 rfl rfl (Nat.le_of_ble_eq_true rfl) ?_
  refine Rn.seq (Rn.reg (Rn.v rfl rfl rfl rfl (V.as rfl) (Rn.regEnd (Rn.seq (Rn.seq (Rn.reg (Rn.v rfl rfl rfl rfl (V.mv rfl) (Rn.v rfl rfl rfl rfl (V.nil rfl) (Rn.v rfl rfl rfl rfl (V.fa Try.underlying54 rfl Try.sizeOf4 rfl rfl) (Rn.v rfl rfl rfl rfl (V.ldB Try.isAgg4 rfl hB rfl) (Rn.regEnd ?_)))))))))))
  refine Rn.condS rfl (fun h1 => ?_) (fun h1 => ?_)
  refine Rn.seq (Rn.reg (Rn.v rfl rfl rfl rfl (V.as rfl) (Rn.regEnd ?_)))
  refine Rn.ret1 Try.func56 rfl rfl ?_
  have hb : s.begin = (s, 13) := if_pos h1
  exact ⟨by rw [hb], by rw [hb]; exact h, (Fr.refl _ _)⟩
  refine Rn.skip (Rn.seq (Rn.reg (Rn.v rfl rfl rfl rfl (V.mv rfl) (Rn.v rfl rfl rfl rfl (V.nil rfl) (Rn.v rfl rfl rfl rfl (V.fa Try.underlying54 rfl Try.sizeOf3 rfl rfl) (Rn.v rfl rfl rfl rfl (V.ldB Try.isAgg3 rfl hB rfl) (Rn.v rfl rfl rfl rfl (V.addI rfl rfl (w64 (by omega) (by omega))) (Rn.v rfl rfl rfl rfl (V.nil rfl) (Rn.v rfl rfl rfl rfl (V.fa Try.underlying54 rfl Try.sizeOf3 rfl rfl) (Rn.st rfl rfl Try.sizeOf3 rfl rfl rfl rfl (by first | exact ones rfl | (simp [Value.oneCell']; done)) hB (by first | exact Nat.le_of_ble_eq_true rfl | (simp; done)) ?_))))))))))
  intro w1 m1 x1
  have e1 : Fr (fun x => x = b) w w1 := ((Fr.refl _ _)).trans' x1 (fun x hx => by first | exact .inl hx | exact .inr (by subst hx; omega))
  refine Rn.regEnd (Rn.seq (Rn.seq (Rn.reg (Rn.v rfl rfl rfl rfl (V.mv rfl) (Rn.v rfl rfl rfl rfl (V.nil rfl) (Rn.v rfl rfl rfl rfl (V.fa Try.underlying54 rfl Try.sizeOf3 rfl rfl) (Rn.v rfl rfl rfl rfl (V.ldB Try.isAgg3 rfl m1 rfl) (Rn.regEnd (Rn.block (Rn.seq (Rn.reg (Rn.v rfl rfl rfl rfl (V.mv rfl) (Rn.v rfl rfl rfl rfl (V.nil rfl) (Rn.v rfl rfl rfl rfl (V.fa Try.underlying54 rfl Try.sizeOf52 rfl rfl) (Rn.v rfl rfl rfl rfl (V.fa Try.underlying52 rfl Try.sizeOf3 rfl rfl) (Rn.v rfl rfl rfl rfl (V.ldB Try.isAgg3 rfl m1 rfl) (Rn.v rfl rfl rfl rfl (V.eql rfl rfl) (Rn.v rfl rfl rfl rfl (V.as rfl) (Rn.regEnd ?_)))))))))))))))))))
  refine Rn.condD rfl (fun h2 => ?_) (fun h2 => ?_)
  refine Rn.seq (Rn.reg (Rn.v rfl rfl rfl rfl (V.mv rfl) (Rn.v rfl rfl rfl rfl (V.nil rfl) (Rn.v rfl rfl rfl rfl (V.fa Try.underlying54 rfl Try.sizeOf4 rfl rfl) (Rn.st rfl rfl Try.sizeOf4 rfl rfl rfl rfl (by first | exact ones rfl | (simp [Value.oneCell']; done)) m1 (by first | exact Nat.le_of_ble_eq_true rfl | (simp; done)) ?_)))))
  intro w2 m2 x2
  have e2 : Fr (fun x => x = b) w w2 := (e1).trans' x2 (fun x hx => by first | exact .inl hx | exact .inr (by subst hx; omega))
  refine Rn.regEnd (Rn.seq (Rn.reg (Rn.v rfl rfl rfl rfl (V.as rfl) (Rn.regEnd ?_))))
  refine Rn.ret1 Try.func56 rfl rfl ?_
  have hb : s.begin = ({ s with calls := s.calls + 1, down := true }, 13) := by unfold PD.begin; rw [if_neg (by simp [h1]), if_pos h2]
  exact ⟨by rw [hb], by rw [hb]; exact h.own e2 rfl m2, e2⟩
  refine Rn.seq (Rn.reg (Rn.v rfl rfl rfl rfl (V.mv rfl) (Rn.v rfl rfl rfl rfl (V.nil rfl) (Rn.v rfl rfl rfl rfl (V.fa Try.underlying54 rfl Try.sizeOf52 rfl rfl) (Rn.v rfl rfl rfl rfl (V.fa Try.underlying52 rfl Try.sizeOf3 rfl rfl) (Rn.v rfl rfl rfl rfl (V.ldB Try.isAgg3 rfl m1 rfl) (Rn.v rfl rfl rfl rfl (V.eql rfl rfl) (Rn.v rfl rfl rfl rfl (V.as rfl) (Rn.regEnd ?_)))))))))
  refine Rn.condD rfl (fun h3 => ?_) (fun h3 => ?_)
  refine Rn.seq (Rn.reg (Rn.v rfl rfl rfl rfl (V.mv rfl) (Rn.v rfl rfl rfl rfl (V.nil rfl) (Rn.v rfl rfl rfl rfl (V.fa Try.underlying54 rfl Try.sizeOf52 rfl rfl) (Rn.v rfl rfl rfl rfl (V.fa Try.underlying52 rfl Try.sizeOf32 rfl rfl) (Rn.v rfl rfl rfl rfl (V.ldB Try.isAgg32 rfl m1 rfl) (Rn.v rfl rfl rfl rfl (V.as rfl) (Rn.regEnd ?_))))))))
  refine Rn.ret1 Try.func56 rfl rfl ?_
  have hb : s.begin = ({ s with calls := s.calls + 1 }, s.fe) := by unfold PD.begin; rw [if_neg (by simp [h1]), if_neg h2, if_pos h3]
  exact ⟨by rw [hb], by rw [hb]; exact h.own e1 rfl m1, e1⟩
  refine Rn.skip (Rn.inBlock (Rn.seq (Rn.reg (Rn.v rfl rfl rfl rfl (V.as rfl) (Rn.regEnd ?_)))))
  refine Rn.ret1 Try.func56 rfl rfl ?_
  have hb : s.begin = ({ s with calls := s.calls + 1 }, 0) := by unfold PD.begin; rw [if_neg (by simp [h1]), if_neg h2, if_neg h3]
  exact ⟨by rw [hb], by rw [hb]; exact h.own e1 rfl m1, e1⟩

end Go.Proofs.Ytpeloppldpdonaa
