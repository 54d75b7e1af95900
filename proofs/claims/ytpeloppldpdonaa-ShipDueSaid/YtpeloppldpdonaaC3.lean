/-
  Walks of functions of the program, group C3: what each call answers, and what stays of the memory.
-/
import Derived.Test.YtpeloppldpdonaaC2
namespace Go.Proofs.Ytpeloppldpdonaa
open Go Go.RowKit Go.Wk
theorem ck48 : CallOk Try.prog 48 := ⟨_, _, Try.func48, rfl, by kernel_rfl⟩
theorem ck56 : CallOk Try.prog 56 := ⟨_, _, Try.func56, rfl, by kernel_rfl⟩
set_option maxRecDepth 20000 in
theorem open_spec {b mb : Nat} {ms : Ms} {ck : Nat} {bss : List (List Nat)} {F : Nat → Prop} {s : PD} (name : List UInt8) (w : World) (hc : s.calls < 4611686018427387904) (h : DkP 54 59 5 w b mb ms ck bss F s) :
    Calls Try.prog 48 #[.pointer (some ⟨b, 0, none⟩), Str name] w fun x w' => DkP 54 59 5 w' b mb ms ck bss F s.begin.1 ∧ Fr (fun x => x = b) w w' ∧ ((s.begin.2 ≠ 0 ∧ x = .returned (.tuple #[.pointer none, .int .i64 s.begin.2])) ∨ (s.begin.2 = 0 ∧ lookM ms name = none ∧ findF name s.files = none ∧ x = .returned (.tuple #[.pointer none, .int .i64 7])) ∨
      (∃ fb f, s.begin.2 = 0 ∧ lookM ms name = some (.pointer (some ⟨fb, 0, none⟩)) ∧ findF name s.files = some f ∧ x = .returned (.tuple #[.pointer (some ⟨fb, 0, none⟩), .int .i64 0]))) := by
  obtain ⟨pv, hp1, hp2, hp3⟩ := h.ptr name
  refine Rn.enter Try.func48 rfl rfl (Nat.le_of_ble_eq_true rfl) ?_
  refine Rn.seq (Rn.reg (Rn.v rfl rfl rfl rfl (V.as rfl) (Rn.v rfl rfl rfl rfl (V.as rfl) (Rn.regEnd (Rn.seq (Rn.seq (Rn.reg (Rn.v rfl rfl rfl rfl (V.mv rfl) (Rn.cl ck56 rfl rfl rfl rfl (begin_spec _ hc h) ?_)))))))))
  rintro _ w1 ⟨rfl, d1, x1⟩
  have e1 : Fr (fun x => x = b) w w1 := ((Fr.refl _ _)).trans' x1 (fun x hx => by first | exact .inl hx | exact .inr (by subst hx; omega))
  refine ⟨_, rfl, ?_⟩
  refine Rn.v rfl rfl rfl rfl (V.as rfl) (Rn.regEnd (Rn.seq (Rn.reg (Rn.v rfl rfl rfl rfl (V.mv rfl) (Rn.v rfl rfl rfl rfl (V.neq rfl rfl) (Rn.regEnd ?_))))))
  refine Rn.condD rfl (fun q1 => ?_) (fun q1 => ?_)
  refine Rn.seq (Rn.reg (Rn.v rfl rfl rfl rfl (V.mv rfl) (Rn.v rfl rfl rfl rfl (V.as rfl) (Rn.v rfl rfl rfl rfl (V.as rfl) (Rn.regEnd ?_)))))
  refine Rn.ret2 Try.func48 rfl rfl rfl ?_
  exact ⟨d1, x1, .inl ⟨q1, rfl⟩⟩
  have q1' : s.begin.2 = 0 := Decidable.of_not_not q1
  have hB1 := d1.blk
  have hM1 := d1.map
  refine Rn.skip (Rn.seq (Rn.reg (Rn.v rfl rfl rfl rfl (V.mv rfl) (Rn.v rfl rfl rfl rfl (V.nil rfl) (Rn.v rfl rfl rfl rfl (V.fa Try.underlying54 rfl Try.sizeOf50 rfl rfl) (Rn.v rfl rfl rfl rfl (V.ldB Try.isAgg50 rfl hB1 rfl) (Rn.v rfl rfl rfl rfl (V.mv rfl) (Rn.v rfl rfl rfl rfl (V.to (V.lkp Try.underlying50 Try.underlying9 Try.zeroValue56 rfl rfl hM1) hp1) (Rn.v rfl rfl rfl rfl (V.as rfl) (Rn.regEnd (Rn.seq (Rn.seq (Rn.reg (Rn.v rfl rfl rfl rfl (V.mv rfl) (Rn.v rfl rfl rfl rfl (V.eqlP Try.underlying56 rfl rfl) (Rn.regEnd ?_))))))))))))))))
  refine Rn.condS rfl (fun q2 => ?_) (fun q2 => ?_)
  refine Rn.seq (Rn.reg (Rn.v rfl rfl rfl rfl (V.as rfl) (Rn.v rfl rfl rfl rfl (V.as rfl) (Rn.regEnd ?_))))
  refine Rn.ret2 Try.func48 rfl rfl rfl ?_
  exact ⟨d1, x1, .inr (.inl ⟨q1', (hp2 q2).1, (hp2 q2).2, rfl⟩)⟩
  obtain ⟨pa, ff, rfl, hq1, hq2⟩ := hp3 q2
  refine Rn.skip (Rn.seq (Rn.reg (Rn.v rfl rfl rfl rfl (V.mv rfl) (Rn.v rfl rfl rfl rfl (V.as rfl) (Rn.v rfl rfl rfl rfl (V.as rfl) (Rn.regEnd ?_))))))
  refine Rn.ret2 Try.func48 rfl rfl rfl ?_
  exact ⟨d1, x1, .inr (.inr ⟨pa, ff, q1', hq1, hq2, rfl⟩)⟩

set_option maxRecDepth 20000 in
theorem look_spec {b mb : Nat} {ms : Ms} {ck : Nat} {bss : List (List Nat)} {F : Nat → Prop} {s : PD} (name : List UInt8) (w : World) (h : DkP 54 59 5 w b mb ms ck bss F s) :
    Calls Try.prog 49 #[.pointer (some ⟨b, 0, none⟩), Str name] w fun x w' => Ext w w' ∧ ((s.down = true ∧ x = .returned (.tuple #[.pointer none, .int .i64 13])) ∨ (s.down = false ∧ findF name s.files = none ∧ x = .returned (.tuple #[.pointer none, .int .i64 7])) ∨
      (∃ fb f, s.down = false ∧ lookM ms name = some (.pointer (some ⟨fb, 0, none⟩)) ∧ findF name s.files = some f ∧ x = .returned (.tuple #[.pointer (some ⟨fb, 0, none⟩), .int .i64 0]))) := by
  obtain ⟨pv, hp1, hp2, hp3⟩ := h.ptr name
  have hB := h.blk
  have hM := h.map
  refine Rn.enter Try.func49 rfl rfl (Nat.le_of_ble_eq_true rfl) ?_
  refine Rn.seq (Rn.reg (Rn.v rfl rfl rfl rfl (V.as rfl) (Rn.v rfl rfl rfl rfl (V.as rfl) (Rn.regEnd (Rn.seq (Rn.seq (Rn.reg (Rn.v rfl rfl rfl rfl (V.mv rfl) (Rn.v rfl rfl rfl rfl (V.nil rfl) (Rn.v rfl rfl rfl rfl (V.fa Try.underlying54 rfl Try.sizeOf4 rfl rfl) (Rn.v rfl rfl rfl rfl (V.ldB Try.isAgg4 rfl hB rfl) (Rn.regEnd ?_))))))))))))
  refine Rn.condS rfl (fun q1 => ?_) (fun q1 => ?_)
  refine Rn.seq (Rn.reg (Rn.v rfl rfl rfl rfl (V.as rfl) (Rn.v rfl rfl rfl rfl (V.as rfl) (Rn.regEnd ?_))))
  refine Rn.ret2 Try.func49 rfl rfl rfl ?_
  exact ⟨Ext.refl _, .inl ⟨q1, rfl⟩⟩
  refine Rn.skip (Rn.seq (Rn.reg (Rn.v rfl rfl rfl rfl (V.mv rfl) (Rn.v rfl rfl rfl rfl (V.nil rfl) (Rn.v rfl rfl rfl rfl (V.fa Try.underlying54 rfl Try.sizeOf50 rfl rfl) (Rn.v rfl rfl rfl rfl (V.ldB Try.isAgg50 rfl hB rfl) (Rn.v rfl rfl rfl rfl (V.mv rfl) (Rn.v rfl rfl rfl rfl (V.to (V.lkp Try.underlying50 Try.underlying9 Try.zeroValue56 rfl rfl hM) hp1) (Rn.v rfl rfl rfl rfl (V.as rfl) (Rn.regEnd (Rn.seq (Rn.seq (Rn.reg (Rn.v rfl rfl rfl rfl (V.mv rfl) (Rn.v rfl rfl rfl rfl (V.eqlP Try.underlying56 rfl rfl) (Rn.regEnd ?_))))))))))))))))
  refine Rn.condS rfl (fun q2 => ?_) (fun q2 => ?_)
  refine Rn.seq (Rn.reg (Rn.v rfl rfl rfl rfl (V.as rfl) (Rn.v rfl rfl rfl rfl (V.as rfl) (Rn.regEnd ?_))))
  refine Rn.ret2 Try.func49 rfl rfl rfl ?_
  exact ⟨Ext.refl _, .inr (.inl ⟨q1, (hp2 q2).2, rfl⟩)⟩
  obtain ⟨pa, ff, rfl, hq1, hq2⟩ := hp3 q2
  refine Rn.skip (Rn.seq (Rn.reg (Rn.v rfl rfl rfl rfl (V.mv rfl) (Rn.v rfl rfl rfl rfl (V.as rfl) (Rn.v rfl rfl rfl rfl (V.as rfl) (Rn.regEnd ?_))))))
  refine Rn.ret2 Try.func49 rfl rfl rfl ?_
  exact ⟨Ext.refl _, .inr (.inr ⟨pa, ff, q1, hq1, hq2, rfl⟩)⟩

set_option maxRecDepth 20000 in
theorem down_spec {b : Nat} {F : Nat → Prop} {s : PD} (w : World) (h : DkAt 54 59 5 w b F s) :
    Calls Try.prog 33 #[.pointer (some ⟨b, 0, none⟩)] w fun x w' => x = .returned (.bool s.down) ∧ w = w' := by
  obtain ⟨mb, ms, ck, bss, h⟩ := h
  have hB := h.blk
  refine Rn.enter Try.func33 rfl rfl (Nat.le_of_ble_eq_true rfl) ?_
  refine Rn.seq (Rn.reg (Rn.v rfl rfl rfl rfl (V.as rfl) (Rn.regEnd (Rn.seq (Rn.reg (Rn.v rfl rfl rfl rfl (V.mv rfl) (Rn.v rfl rfl rfl rfl (V.nil rfl) (Rn.v rfl rfl rfl rfl (V.fa Try.underlying54 rfl Try.sizeOf4 rfl rfl) (Rn.v rfl rfl rfl rfl (V.ldB Try.isAgg4 rfl hB rfl) (Rn.v rfl rfl rfl rfl (V.as rfl) (Rn.regEnd ?_)))))))))))
  refine Rn.ret1 Try.func33 rfl rfl ?_
  exact ⟨rfl, rfl⟩

set_option maxRecDepth 20000 in
theorem remove_spec {b : Nat} {F : Nat → Prop} {s : PD} (name : List UInt8) (w : World) (hc : s.calls < 4611686018427387904) (h : DkAt 54 59 5 w b F s) :
    Calls Try.prog 35 #[.pointer (some ⟨b, 0, none⟩), Str name] w fun x w' => x = .returned (.int .i64 (s.remove name).2) ∧ ∃ F', DkAt 54 59 5 w' b F' (s.remove name).1 ∧ Fr F w w' ∧ (∀ x, F' x → F x ∨ w.heap.size ≤ x) := by
  obtain ⟨mb, ms, ck, bss, h⟩ := h
  have hFb := h.sub b (by simp)
  have hFm := h.sub mb (by simp)
  refine Rn.enter Try.func35 rfl rfl (Nat.le_of_ble_eq_true rfl) ?_
  refine Rn.seq (Rn.reg (Rn.v rfl rfl rfl rfl (V.as rfl) (Rn.regEnd (Rn.seq (Rn.reg (Rn.v rfl rfl rfl rfl (V.mv rfl) (Rn.v rfl rfl rfl rfl (V.mv rfl) (Rn.cl ck48 rfl rfl rfl rfl (open_spec _ _ hc h) ?_))))))))
  rintro _ w1 ⟨d1, x1, (⟨hb1, rfl⟩ | ⟨hb1, hl1, hf1, rfl⟩ | ⟨fb1, f1, hb1, hl1, hf1, rfl⟩)⟩
  have e1 : Fr F w w1 := ((Fr.refl _ _)).trans' x1 (fun x hx => by first | (subst hx; exact .inl hFb) | (subst hx; exact .inl hFm))
  refine ⟨_, rfl, ?_⟩
  refine Rn.v rfl rfl rfl rfl (V.mv rfl) (Rn.v rfl rfl rfl rfl (V.ext rfl rfl) (Rn.v rfl rfl rfl rfl (V.ext rfl rfl) (Rn.v rfl rfl rfl rfl (V.as rfl) (Rn.v rfl rfl rfl rfl (V.as rfl) (Rn.regEnd (Rn.seq (Rn.seq (Rn.reg (Rn.v rfl rfl rfl rfl (V.mv rfl) (Rn.v rfl rfl rfl rfl (V.eql rfl rfl) (Rn.regEnd ?_)))))))))))
  refine Rn.condD rfl (fun q1 => ?_) (fun q1 => ?_)
  exact absurd q1 hb1
  refine Rn.skip (Rn.seq (Rn.reg (Rn.v rfl rfl rfl rfl (V.mv rfl) (Rn.v rfl rfl rfl rfl (V.as rfl) (Rn.regEnd ?_)))))
  refine Rn.ret1 Try.func35 rfl rfl ?_
  have hr : s.remove name = s.begin := if_pos hb1
  exact ⟨by rw [hr]; first | done | rfl, F, by rw [hr]; exact ⟨mb, ms, ck, bss, d1⟩, e1, fun x hx => .inl hx⟩
  have e1 : Fr F w w1 := ((Fr.refl _ _)).trans' x1 (fun x hx => by first | (subst hx; exact .inl hFb) | (subst hx; exact .inl hFm))
  refine ⟨_, rfl, ?_⟩
  refine Rn.v rfl rfl rfl rfl (V.mv rfl) (Rn.v rfl rfl rfl rfl (V.ext rfl rfl) (Rn.v rfl rfl rfl rfl (V.ext rfl rfl) (Rn.v rfl rfl rfl rfl (V.as rfl) (Rn.v rfl rfl rfl rfl (V.as rfl) (Rn.regEnd (Rn.seq (Rn.seq (Rn.reg (Rn.v rfl rfl rfl rfl (V.mv rfl) (Rn.v rfl rfl rfl rfl (V.eql rfl rfl) (Rn.regEnd ?_)))))))))))
  refine Rn.condD rfl (fun q1 => ?_) (fun q1 => ?_)
  exact absurd q1 (by decide)
  refine Rn.skip (Rn.seq (Rn.reg (Rn.v rfl rfl rfl rfl (V.mv rfl) (Rn.v rfl rfl rfl rfl (V.as rfl) (Rn.regEnd ?_)))))
  refine Rn.ret1 Try.func35 rfl rfl ?_
  have hr : s.remove name = (s.begin.1, 7) := by unfold PD.remove; rw [if_neg (fun hh => hh hb1), hf1]
  exact ⟨by rw [hr]; first | done | rfl, F, by rw [hr]; exact ⟨mb, ms, ck, bss, d1⟩, e1, fun x hx => .inl hx⟩
  have e1 : Fr F w w1 := ((Fr.refl _ _)).trans' x1 (fun x hx => by first | (subst hx; exact .inl hFb) | (subst hx; exact .inl hFm))
  obtain ⟨g1, A1, c1, hff1, hfB1, hO1, hfb1, hFf1, hfm1, hoA1, ht1⟩ := d1.turn hl1
  rw [PD.begin_files, hf1] at hff1
  cases hff1
  refine ⟨_, rfl, ?_⟩
  have hr : s.remove name = ({ s.begin.1 with files := delF name s.files }, 0) := by unfold PD.remove; rw [if_neg (fun hh => hh hb1), hf1]
  have hB1 := d1.blk
  have hM1 := d1.map
  refine Rn.v rfl rfl rfl rfl (V.mv rfl) (Rn.v rfl rfl rfl rfl (V.ext rfl rfl) (Rn.v rfl rfl rfl rfl (V.ext rfl rfl) (Rn.v rfl rfl rfl rfl (V.as rfl) (Rn.v rfl rfl rfl rfl (V.as rfl) (Rn.regEnd (Rn.seq (Rn.seq (Rn.reg (Rn.v rfl rfl rfl rfl (V.mv rfl) (Rn.v rfl rfl rfl rfl (V.eql rfl rfl) (Rn.regEnd ?_)))))))))))
  refine Rn.condD rfl (fun q1 => ?_) (fun q1 => ?_)
  refine Rn.reg (Rn.v rfl rfl rfl rfl (V.mv rfl) (Rn.v rfl rfl rfl rfl (V.nil rfl) (Rn.v rfl rfl rfl rfl (V.fa Try.underlying54 rfl Try.sizeOf50 rfl rfl) (Rn.v rfl rfl rfl rfl (V.ldB Try.isAgg50 rfl hB1 rfl) (Rn.v rfl rfl rfl rfl (V.mv rfl) (Rn.del rfl rfl rfl Try.underlying50 Try.underlying9 rfl rfl hM1 ?_))))))
  intro w2 m2 x2
  have e2 : Fr F w w2 := (e1).trans' x2 (fun x hx => by first | (subst hx; exact .inl hFb) | (subst hx; exact .inl hFm))
  refine Rn.regEnd (Rn.seq (Rn.reg (Rn.v rfl rfl rfl rfl (V.mv rfl) (Rn.v rfl rfl rfl rfl (V.as rfl) (Rn.regEnd ?_)))))
  refine Rn.ret1 Try.func35 rfl rfl ?_
  obtain ⟨f, bs, bss', _, _, hd, _, _, _⟩ := d1.del hl1 x2 (fun x _ hx => hx) m2 rfl
  rw [PD.begin_files] at hd
  exact ⟨by rw [hr]; first | done | rfl, F, by rw [hr]; exact ⟨_, _, _, _, hd⟩, e2, fun x hx => .inl hx⟩
  exact absurd rfl q1

end Go.Proofs.Ytpeloppldpdonaa
