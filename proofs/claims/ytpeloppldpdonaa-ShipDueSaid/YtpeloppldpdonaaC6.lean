/-
  Walks of functions of the program, group C6: what each call answers, and what stays of the memory.
-/
import Derived.Test.YtpeloppldpdonaaC5
namespace Go.Proofs.Ytpeloppldpdonaa
open Go Go.RowKit Go.Wk
theorem ck49 : CallOk Try.prog 49 := ⟨_, _, Try.func49, rfl, by kernel_rfl⟩
set_option maxRecDepth 20000 in
theorem read_spec {b : Nat} {F : Nat → Prop} {s : PD} (name : List UInt8) (w : World) (hok : s.used ≤ s.cap ∧ s.cap ≤ 4194304) (h : DkAt 54 59 5 w b F s) :
    Calls Try.prog 36 #[.pointer (some ⟨b, 0, none⟩), Str name] w fun x w' => Ext w w' ∧ ((s.down = true ∧ x = .returned (.tuple #[.slice none 0 0, .int .i64 13])) ∨ (s.down = false ∧ findF name s.files = none ∧ x = .returned (.tuple #[.slice none 0 0, .int .i64 7])) ∨
      (∃ f A c, s.down = false ∧ findF name s.files = some f ∧ x = .returned (.tuple #[.slice A f.data.length c, .int .i64 0]) ∧ Own w.heap.size No w' 5 A c byteR f.data)) := by
  obtain ⟨mb, ms, ck, bss, h⟩ := h
  refine Rn.enter Try.func36 rfl rfl (Nat.le_of_ble_eq_true rfl) ?_
  refine Rn.seq (Rn.reg (Rn.v rfl rfl rfl rfl (V.as rfl) (Rn.v rfl rfl rfl rfl (V.as rfl) (Rn.regEnd (Rn.seq (Rn.reg (Rn.v rfl rfl rfl rfl (V.mv rfl) (Rn.v rfl rfl rfl rfl (V.mv rfl) (Rn.cl ck49 rfl rfl rfl rfl (look_spec _ _ h) ?_)))))))))
  rintro _ w1 ⟨x1, (⟨hb1, rfl⟩ | ⟨hb1, hf1, rfl⟩ | ⟨fb1, f1, hb1, hl1, hf1, rfl⟩)⟩
  refine ⟨_, rfl, ?_⟩
  refine Rn.v rfl rfl rfl rfl (V.mv rfl) (Rn.v rfl rfl rfl rfl (V.ext rfl rfl) (Rn.v rfl rfl rfl rfl (V.ext rfl rfl) (Rn.v rfl rfl rfl rfl (V.as rfl) (Rn.v rfl rfl rfl rfl (V.as rfl) (Rn.regEnd (Rn.seq (Rn.seq (Rn.reg (Rn.v rfl rfl rfl rfl (V.mv rfl) (Rn.v rfl rfl rfl rfl (V.neq rfl rfl) (Rn.regEnd ?_)))))))))))
  refine Rn.condD rfl (fun q1 => ?_) (fun q1 => ?_)
  refine Rn.seq (Rn.reg (Rn.v rfl rfl rfl rfl (V.mv rfl) (Rn.v rfl rfl rfl rfl (V.as rfl) (Rn.v rfl rfl rfl rfl (V.as rfl) (Rn.regEnd ?_)))))
  refine Rn.ret2 Try.func36 rfl rfl rfl ?_
  exact ⟨x1, .inl ⟨hb1, rfl⟩⟩
  exact absurd (by decide) q1
  refine ⟨_, rfl, ?_⟩
  refine Rn.v rfl rfl rfl rfl (V.mv rfl) (Rn.v rfl rfl rfl rfl (V.ext rfl rfl) (Rn.v rfl rfl rfl rfl (V.ext rfl rfl) (Rn.v rfl rfl rfl rfl (V.as rfl) (Rn.v rfl rfl rfl rfl (V.as rfl) (Rn.regEnd (Rn.seq (Rn.seq (Rn.reg (Rn.v rfl rfl rfl rfl (V.mv rfl) (Rn.v rfl rfl rfl rfl (V.neq rfl rfl) (Rn.regEnd ?_)))))))))))
  refine Rn.condD rfl (fun q1 => ?_) (fun q1 => ?_)
  refine Rn.seq (Rn.reg (Rn.v rfl rfl rfl rfl (V.mv rfl) (Rn.v rfl rfl rfl rfl (V.as rfl) (Rn.v rfl rfl rfl rfl (V.as rfl) (Rn.regEnd ?_)))))
  refine Rn.ret2 Try.func36 rfl rfl rfl ?_
  exact ⟨x1, .inr (.inl ⟨hb1, hf1, rfl⟩)⟩
  exact absurd (by decide) q1
  obtain ⟨g1, A1, c1, hff1, hfB1, hO1, hfb1, hFf1, hfm1, hoA1, ht1⟩ := h.turn hl1
  rw [hf1] at hff1
  cases hff1
  refine ⟨_, rfl, ?_⟩
  refine Rn.v rfl rfl rfl rfl (V.mv rfl) (Rn.v rfl rfl rfl rfl (V.ext rfl rfl) (Rn.v rfl rfl rfl rfl (V.ext rfl rfl) (Rn.v rfl rfl rfl rfl (V.as rfl) (Rn.v rfl rfl rfl rfl (V.as rfl) (Rn.regEnd (Rn.seq (Rn.seq (Rn.reg (Rn.v rfl rfl rfl rfl (V.mv rfl) (Rn.v rfl rfl rfl rfl (V.neq rfl rfl) (Rn.regEnd ?_)))))))))))
  refine Rn.condD rfl (fun q1 => ?_) (fun q1 => ?_)
  exact absurd rfl q1
  have hfl := find_le_used hf1
  refine Rn.skip (Rn.seq (Rn.reg (Rn.v rfl rfl rfl rfl (V.mv rfl) (Rn.v rfl rfl rfl rfl (V.nil rfl) (Rn.v rfl rfl rfl rfl (V.fa Try.underlying59 rfl Try.sizeOf22 rfl rfl) (Rn.v rfl rfl rfl rfl (V.ldB Try.isAgg22 rfl (hfB1.ext x1) rfl) (Rn.cl ck17 rfl rfl rfl rfl (clone_spec _ _ _ _ (by omega) (hO1.ext x1).sl) ?_)))))))
  rintro _ w2 ⟨A2, c2, rfl, o2, x2⟩
  refine ⟨_, rfl, ?_⟩
  refine Rn.v rfl rfl rfl rfl (V.as rfl) (Rn.v rfl rfl rfl rfl (V.as rfl) (Rn.regEnd ?_))
  refine Rn.ret2 Try.func36 rfl rfl rfl ?_
  exact ⟨(x1.trans x2), .inr (.inr ⟨f1, A2, c2, hb1, hf1, rfl, o2.lower x1.size⟩)⟩

set_option maxRecDepth 20000 in
theorem size_spec {b : Nat} {F : Nat → Prop} {s : PD} (name : List UInt8) (w : World) (h : DkAt 54 59 5 w b F s) :
    Calls Try.prog 47 #[.pointer (some ⟨b, 0, none⟩), Str name] w fun x w' => Ext w w' ∧ ((s.down = true ∧ x = .returned (.tuple #[.int .i64 0, .int .i64 0, .int .i64 13])) ∨ (s.down = false ∧ findF name s.files = none ∧ x = .returned (.tuple #[.int .i64 0, .int .i64 0, .int .i64 7])) ∨
      (∃ f, s.down = false ∧ findF name s.files = some f ∧ x = .returned (.tuple #[.int .i64 f.data.length, .int .i64 f.sure, .int .i64 0]))) := by
  obtain ⟨mb, ms, ck, bss, h⟩ := h
  refine Rn.enter Try.func47 rfl rfl (Nat.le_of_ble_eq_true rfl) ?_
  refine Rn.seq (Rn.reg (Rn.v rfl rfl rfl rfl (V.as rfl) (Rn.v rfl rfl rfl rfl (V.as rfl) (Rn.v rfl rfl rfl rfl (V.as rfl) (Rn.regEnd (Rn.seq (Rn.reg (Rn.v rfl rfl rfl rfl (V.mv rfl) (Rn.v rfl rfl rfl rfl (V.mv rfl) (Rn.cl ck49 rfl rfl rfl rfl (look_spec _ _ h) ?_))))))))))
  rintro _ w1 ⟨x1, (⟨hb1, rfl⟩ | ⟨hb1, hf1, rfl⟩ | ⟨fb1, f1, hb1, hl1, hf1, rfl⟩)⟩
  refine ⟨_, rfl, ?_⟩
  refine Rn.v rfl rfl rfl rfl (V.mv rfl) (Rn.v rfl rfl rfl rfl (V.ext rfl rfl) (Rn.v rfl rfl rfl rfl (V.ext rfl rfl) (Rn.v rfl rfl rfl rfl (V.as rfl) (Rn.v rfl rfl rfl rfl (V.as rfl) (Rn.regEnd (Rn.seq (Rn.seq (Rn.reg (Rn.v rfl rfl rfl rfl (V.mv rfl) (Rn.v rfl rfl rfl rfl (V.neq rfl rfl) (Rn.regEnd ?_)))))))))))
  refine Rn.condD rfl (fun q1 => ?_) (fun q1 => ?_)
  refine Rn.seq (Rn.reg (Rn.v rfl rfl rfl rfl (V.mv rfl) (Rn.v rfl rfl rfl rfl (V.as rfl) (Rn.v rfl rfl rfl rfl (V.as rfl) (Rn.v rfl rfl rfl rfl (V.as rfl) (Rn.regEnd ?_))))))
  refine Rn.ret3 Try.func47 rfl rfl rfl rfl ?_
  exact ⟨x1, .inl ⟨hb1, rfl⟩⟩
  exact absurd (by decide) q1
  refine ⟨_, rfl, ?_⟩
  refine Rn.v rfl rfl rfl rfl (V.mv rfl) (Rn.v rfl rfl rfl rfl (V.ext rfl rfl) (Rn.v rfl rfl rfl rfl (V.ext rfl rfl) (Rn.v rfl rfl rfl rfl (V.as rfl) (Rn.v rfl rfl rfl rfl (V.as rfl) (Rn.regEnd (Rn.seq (Rn.seq (Rn.reg (Rn.v rfl rfl rfl rfl (V.mv rfl) (Rn.v rfl rfl rfl rfl (V.neq rfl rfl) (Rn.regEnd ?_)))))))))))
  refine Rn.condD rfl (fun q1 => ?_) (fun q1 => ?_)
  refine Rn.seq (Rn.reg (Rn.v rfl rfl rfl rfl (V.mv rfl) (Rn.v rfl rfl rfl rfl (V.as rfl) (Rn.v rfl rfl rfl rfl (V.as rfl) (Rn.v rfl rfl rfl rfl (V.as rfl) (Rn.regEnd ?_))))))
  refine Rn.ret3 Try.func47 rfl rfl rfl rfl ?_
  exact ⟨x1, .inr (.inl ⟨hb1, hf1, rfl⟩)⟩
  exact absurd (by decide) q1
  obtain ⟨g1, A1, c1, hff1, hfB1, hO1, hfb1, hFf1, hfm1, hoA1, ht1⟩ := h.turn hl1
  rw [hf1] at hff1
  cases hff1
  refine ⟨_, rfl, ?_⟩
  refine Rn.v rfl rfl rfl rfl (V.mv rfl) (Rn.v rfl rfl rfl rfl (V.ext rfl rfl) (Rn.v rfl rfl rfl rfl (V.ext rfl rfl) (Rn.v rfl rfl rfl rfl (V.as rfl) (Rn.v rfl rfl rfl rfl (V.as rfl) (Rn.regEnd (Rn.seq (Rn.seq (Rn.reg (Rn.v rfl rfl rfl rfl (V.mv rfl) (Rn.v rfl rfl rfl rfl (V.neq rfl rfl) (Rn.regEnd ?_)))))))))))
  refine Rn.condD rfl (fun q1 => ?_) (fun q1 => ?_)
  exact absurd rfl q1
  refine Rn.skip (Rn.seq ?_)
  refine Rn.drawE rfl ?_
  intro w2 x2
  refine RH.take 0 (by kernel_rfl) rfl rfl rfl rfl (fun w' hDr => V.mv rfl) ?_
  refine RH.take 1 (by kernel_rfl) rfl rfl rfl rfl (fun w' hDr => V.nil rfl) ?_
  refine RH.take 2 (by kernel_rfl) rfl rfl rfl rfl (fun w' hDr => V.fa Try.underlying59 rfl Try.sizeOf22 rfl rfl) ?_
  refine RH.take 3 (by kernel_rfl) rfl rfl rfl rfl (fun w' hDr => V.ldB Try.isAgg22 rfl ((hfB1.ext (x1.trans x2)).ext hDr) rfl) ?_
  refine RH.take 4 (by kernel_rfl) rfl rfl rfl rfl (fun w' hDr => V.lenV Try.underlying22 rfl) ?_
  refine RH.take 5 (by kernel_rfl) rfl rfl rfl rfl (fun w' hDr => V.mv rfl) ?_
  refine RH.take 6 (by kernel_rfl) rfl rfl rfl rfl (fun w' hDr => V.nil rfl) ?_
  refine RH.take 7 (by kernel_rfl) rfl rfl rfl rfl (fun w' hDr => V.fa Try.underlying59 rfl Try.sizeOf3 rfl rfl) ?_
  refine RH.take 8 (by kernel_rfl) rfl rfl rfl rfl (fun w' hDr => V.ldB Try.isAgg3 rfl ((hfB1.ext (x1.trans x2)).ext hDr) rfl) ?_
  refine RH.take 9 (by kernel_rfl) rfl rfl rfl rfl (fun w' hDr => V.as rfl) ?_
  refine RH.take 10 (by kernel_rfl) rfl rfl rfl rfl (fun w' hDr => V.as rfl) ?_
  refine RH.take 11 (by kernel_rfl) rfl rfl rfl rfl (fun w' hDr => V.as rfl) ?_
  refine RH.done (by kernel_rfl) (fun xd2 => ?_)
  refine Rn.ret3 Try.func47 rfl rfl rfl rfl ?_
  exact ⟨(x1.trans x2), .inr (.inr ⟨f1, hb1, hf1, rfl⟩)⟩

end Go.Proofs.Ytpeloppldpdonaa
