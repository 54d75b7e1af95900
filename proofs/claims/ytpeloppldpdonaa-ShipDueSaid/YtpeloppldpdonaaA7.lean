/-
  Walks of functions of the program, group A7: what each call answers, and what stays of the memory.
-/
import Derived.Test.YtpeloppldpdonaaA6
namespace Go.Proofs.Ytpeloppldpdonaa
open Go Go.RowKit Go.Wk
theorem ck60 : CallOk Try.prog 60 := ⟨_, _, Try.func60, rfl, by kernel_rfl⟩
theorem ck61 : CallOk Try.prog 61 := ⟨_, _, Try.func61, rfl, by kernel_rfl⟩
set_option maxRecDepth 20000 in
theorem four4_spec (n : Int) (m : Nat) (w : World) (hn : n = m) (hm : m < 4294967296) :
    Calls Try.prog 60 #[.int .i64 n] w fun x w' => x = .returned (Str (le4 m)) ∧ Ext w w' := by
  subst hn
  refine Rn.enter Try.func60 rfl rfl (Nat.le_of_ble_eq_true rfl) ?_
  refine Rn.seq (Rn.reg (Rn.v rfl rfl rfl rfl (V.as rfl) (Rn.regEnd (Rn.seq (Rn.reg (Rn.v rfl rfl rfl rfl (V.mv rfl) (Rn.v rfl rfl rfl rfl (V.remI rfl rfl (by omega) (by omega)) (Rn.v rfl rfl rfl rfl (V.to (V.cvW Try.underlying3 Try.underlying5 rfl) (show _ = I8 (UInt8.ofNat (m)) by simp [I8, IntKind.wrap, IntKind.signed, IntKind.bits]; try omega)) (Rn.v rfl rfl rfl rfl (V.mv rfl) (Rn.v rfl rfl rfl rfl (V.quoI rfl rfl (by omega) (by omega) (w64 (by omega) (by omega))) (Rn.v rfl rfl rfl rfl (V.remI rfl rfl (by omega) (by omega)) (Rn.v rfl rfl rfl rfl (V.to (V.cvW Try.underlying3 Try.underlying5 rfl) (show _ = I8 (UInt8.ofNat (m / 256)) by simp [I8, IntKind.wrap, IntKind.signed, IntKind.bits]; try omega)) (Rn.v rfl rfl rfl rfl (V.mv rfl) (Rn.v rfl rfl rfl rfl (V.quoI rfl rfl (by omega) (by omega) (w64 (by omega) (by omega))) (Rn.v rfl rfl rfl rfl (V.remI rfl rfl (by omega) (by omega)) (Rn.v rfl rfl rfl rfl (V.to (V.cvW Try.underlying3 Try.underlying5 rfl) (show _ = I8 (UInt8.ofNat (m / 65536)) by simp [I8, IntKind.wrap, IntKind.signed, IntKind.bits]; try omega)) (Rn.v rfl rfl rfl rfl (V.mv rfl) (Rn.v rfl rfl rfl rfl (V.quoI rfl rfl (by omega) (by omega) (w64 (by omega) (by omega))) (Rn.v rfl rfl rfl rfl (V.to (V.cvW Try.underlying3 Try.underlying5 rfl) (show _ = I8 (UInt8.ofNat (m / 16777216)) by simp [I8, IntKind.wrap, IntKind.signed, IntKind.bits]; try omega)) (Rn.bslS rfl rfl rfl Try.underlying22 el5 rfl rfl rfl rfl (by first | exact szs rfl | (simp [Value.cells]; done)) (by decide) ?_))))))))))))))))))))
  intro b1 w1 hb1 m1 x1
  have o1 : Own w.heap.size No w1 5 (some ⟨b1, 0, none⟩) 4 byteR (le4 m) := own_bytes (le4 m) m1 (by omega) (Nat.le_of_ble_eq_true rfl)
  refine Rn.v rfl rfl rfl rfl (V.b2s Try.underlying22 Try.underlying9 Try.underlying5 rfl rfl o1.sl) (Rn.v rfl rfl rfl rfl (V.as rfl) (Rn.regEnd ?_))
  refine Rn.ret1 Try.func60 rfl rfl ?_
  exact ⟨rfl, x1⟩

set_option maxRecDepth 20000 in
theorem wrap4_spec {D : Nat → Prop} (A : Option Addr) (c m : Nat) (l : List UInt8) (w : World) (hl : l.length ≤ 4294967296) (hm : l.length = m) (hS : Sl D w A byteR l) :
    Calls Try.prog 54 #[.slice A m c] w fun x w' => ∃ A' c', x = (if 65536 < l.length then .returned (.tuple #[.slice none 0 0, .int .i64 4]) else .returned (.tuple #[.slice A' (wrapL l).length c', .int .i64 0])) ∧ (¬ 65536 < l.length → Sl (fun b => w.heap.size ≤ b) w' A' byteR (wrapL l) ∧ (wrapL l).length ≤ c' ∧ c' ≤ maxLen) ∧ Ext w w' := by
  subst hm
  refine Rn.enter Try.func54 rfl rfl (Nat.le_of_ble_eq_true rfl) ?_
  refine Rn.seq (Rn.reg (Rn.v rfl rfl rfl rfl (V.as rfl) (Rn.v rfl rfl rfl rfl (V.as rfl) (Rn.regEnd (Rn.seq (Rn.seq (Rn.reg (Rn.v rfl rfl rfl rfl (V.mv rfl) (Rn.v rfl rfl rfl rfl (V.lenV Try.underlying22 rfl) (Rn.v rfl rfl rfl rfl (V.gtr rfl rfl) (Rn.regEnd ?_)))))))))))
  refine Rn.condD rfl (fun hg => ?_) (fun hg => ?_)
  refine Rn.seq (Rn.reg (Rn.v rfl rfl rfl rfl (V.as rfl) (Rn.v rfl rfl rfl rfl (V.as rfl) (Rn.regEnd ?_))))
  refine Rn.ret2 Try.func54 rfl rfl rfl ?_
  exact ⟨none, 0, by rw [if_pos (by omega)], fun hh => absurd hh (by omega), Ext.refl _⟩
  refine Rn.skip (Rn.seq (Rn.reg (Rn.v rfl rfl rfl rfl (V.mv rfl) (Rn.v rfl rfl rfl rfl (V.lenV Try.underlying22 rfl) (Rn.cl ck60 rfl rfl rfl rfl (four4_spec _ _ _ rfl (by omega)) ?_)))))
  rintro _ w1 ⟨rfl, x1⟩
  refine ⟨_, rfl, ?_⟩
  refine Rn.v rfl rfl rfl rfl (V.catS rfl rfl (by first | omega | (simp; done) | (simp; omega))) (Rn.v rfl rfl rfl rfl (V.as rfl) (Rn.regEnd (Rn.seq ?_)))
  refine Rn.drawE rfl ?_
  intro w2 x2
  refine RH.take 0 (by kernel_rfl) rfl rfl rfl rfl (fun w' hDr => V.mv rfl) ?_
  refine RH.take 1 (by kernel_rfl) rfl rfl rfl rfl (fun w' hDr => V.mv rfl) ?_
  refine RH.take 2 (by kernel_rfl) rfl rfl rfl rfl (fun w' hDr => V.mv rfl) ?_
  refine RH.take 3 (by kernel_rfl) rfl rfl rfl rfl (fun w' hDr => V.b2s Try.underlying22 Try.underlying9 Try.underlying5 rfl rfl ((hS.ext (x1.trans x2)).ext hDr)) ?_
  refine RH.take 4 (by kernel_rfl) rfl rfl rfl rfl (fun w' hDr => V.catS rfl rfl (by first | omega | (simp; done) | (simp; omega))) ?_
  refine RH.take 10 (by kernel_rfl) rfl rfl rfl rfl (fun w' hDr => V.mv rfl) ?_
  refine RH.take 11 (by kernel_rfl) rfl rfl rfl rfl (fun w' hDr => V.b2s Try.underlying22 Try.underlying9 Try.underlying5 rfl rfl ((hS.ext (x1.trans x2)).ext hDr)) ?_
  refine RH.s2b 5 (by kernel_rfl) rfl rfl rfl Try.underlying9 Try.underlying22 Try.underlying5 rfl (by simp [maxLen]; omega) ?_
  rintro b3 c3 w3 hb3 hc3 hm3 x3 hl3 s3
  refine ⟨x3, ?_⟩
  refine RH.cl ck61 6 (by kernel_rfl) rfl rfl rfl rfl (ofR_spec _ _ _ _ (by first | omega | (simp; done) | (simp; omega)) s3) ?_
  rintro _ _ ⟨rfl, rfl⟩
  refine ⟨_, rfl, x3, ?_⟩
  refine RH.take 7 (by kernel_rfl) rfl rfl rfl rfl (fun w' hDr => V.cvI Try.underlying110 Try.underlying3 rfl (by first | exact wc32 _ | exact w64 (by omega) (by omega))) ?_
  refine RH.cl ck60 8 (by kernel_rfl) rfl rfl rfl rfl (four4_spec _ _ _ rfl (UInt32.toNat_lt _)) ?_
  rintro _ w5 ⟨rfl, x5⟩
  refine ⟨_, rfl, (x3).trans x5, ?_⟩
  refine RH.take 9 (by kernel_rfl) rfl rfl rfl rfl (fun w' hDr => V.catS rfl rfl (by first | omega | (simp; done) | (simp; omega))) ?_
  refine RH.take 12 (by kernel_rfl) rfl rfl rfl rfl (fun w' hDr => V.catS rfl rfl (by first | omega | (simp; done) | (simp; omega))) ?_
  refine RH.s2b 13 (by kernel_rfl) rfl rfl rfl Try.underlying9 Try.underlying22 Try.underlying5 rfl (by simp [maxLen]; omega) ?_
  rintro b6 c6 w6 hb6 hc6 hm6 x6 hl6 s6
  refine ⟨((x3).trans x5).trans x6, ?_⟩
  refine RH.take 14 (by kernel_rfl) rfl rfl rfl rfl (fun w' hDr => V.as rfl) ?_
  refine RH.take 15 (by kernel_rfl) rfl rfl rfl rfl (fun w' hDr => V.as rfl) ?_
  refine RH.done (by kernel_rfl) (fun xd6 => ?_)
  have h6 : Sl _ w6 (some ⟨b6, 0, none⟩) byteR (wrapL l) := s6
  have hsz := ((x1.trans (x2.trans (x3.trans x5)))).size
  refine Rn.ret2 Try.func54 rfl rfl rfl ?_
  exact ⟨some ⟨b6, 0, none⟩, c6, by rw [if_neg (by omega)]; rfl, fun _ => ⟨h6.mono (fun b hb => by subst hb; omega), hc6, hm6⟩, (x1.trans (x2.trans (x3.trans (x5.trans x6))))⟩

end Go.Proofs.Ytpeloppldpdonaa
