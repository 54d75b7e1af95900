/-
  Walks of functions of the program, group C5: what each call answers, and what stays of the memory.
-/
import Derived.Test.YtpeloppldpdonaaC4
namespace Go.Proofs.Ytpeloppldpdonaa
open Go Go.RowKit Go.Wk
theorem ck16 : CallOk Try.prog 16 := ⟨_, _, Try.func16, rfl, by kernel_rfl⟩
theorem st59 : StOk Try.prog 59 [.slice none 0 0, .int .i64 0] [(0, 1), (1, 1)] := ⟨Try.zeroValue59, _, Try.underlying59, fun w => by kernel_rfl⟩
set_option maxRecDepth 20000 in
theorem create_spec {b : Nat} {F : Nat → Prop} {s : PD} (name : List UInt8) (w : World) (hc : s.calls < 4611686018427387904) (h : DkAt 54 59 5 w b F s) :
    Calls Try.prog 43 #[.pointer (some ⟨b, 0, none⟩), Str name] w fun x w' => x = .returned (.int .i64 (s.create name).2) ∧ ∃ F', DkAt 54 59 5 w' b F' (s.create name).1 ∧ Fr F w w' ∧ (∀ x, F' x → F x ∨ w.heap.size ≤ x) := by
  obtain ⟨mb, ms, ck, bss, h⟩ := h
  have hFb := h.sub b (by simp)
  have hFm := h.sub mb (by simp)
  refine Rn.enter Try.func43 rfl rfl (Nat.le_of_ble_eq_true rfl) ?_
  refine Rn.seq (Rn.reg (Rn.v rfl rfl rfl rfl (V.as rfl) (Rn.regEnd (Rn.seq (Rn.reg (Rn.v rfl rfl rfl rfl (V.mv rfl) (Rn.cl ck56 rfl rfl rfl rfl (begin_spec _ hc h) ?_)))))))
  rintro _ w1 ⟨rfl, d1, x1⟩
  have e1 : Fr F w w1 := ((Fr.refl _ _)).trans' x1 (fun x hx => by first | (subst hx; exact .inl hFb) | (subst hx; exact .inl hFm))
  have hs1 := x1.size
  refine ⟨_, rfl, ?_⟩
  refine Rn.v rfl rfl rfl rfl (V.as rfl) (Rn.regEnd (Rn.seq (Rn.block (Rn.seq (Rn.reg (Rn.v rfl rfl rfl rfl (V.mv rfl) (Rn.v rfl rfl rfl rfl (V.neq rfl rfl) (Rn.v rfl rfl rfl rfl (V.as rfl) (Rn.regEnd ?_)))))))))
  have hB1 := d1.blk
  have hM1 := d1.map
  obtain ⟨pv, hp1, hp2, hp3⟩ := d1.ptr name
  refine Rn.condD rfl (fun q1 => ?_) (fun q1 => ?_)
  refine Rn.seq (Rn.reg (Rn.v rfl rfl rfl rfl (V.mv rfl) (Rn.v rfl rfl rfl rfl (V.as rfl) (Rn.regEnd ?_))))
  refine Rn.ret1 Try.func43 rfl rfl ?_
  have hr : s.create name = s.begin := if_pos q1
  exact ⟨by rw [hr]; first | done | rfl, F, by rw [hr]; exact ⟨_, _, _, _, d1⟩, e1, fun x hx => .inl hx⟩
  refine Rn.seq (Rn.reg (Rn.v rfl rfl rfl rfl (V.mv rfl) (Rn.cl ck16 rfl rfl rfl rfl (isName_spec _ _) ?_)))
  rintro _ w2 ⟨rfl, x2⟩
  have hs2 := x2.size
  refine ⟨_, rfl, ?_⟩
  refine Rn.v rfl rfl rfl rfl (V.notB rfl) (Rn.v rfl rfl rfl rfl (V.as rfl) (Rn.regEnd ?_))
  refine Rn.condS rfl (fun q2 => ?_) (fun q2 => ?_)
  refine Rn.seq (Rn.reg (Rn.v rfl rfl rfl rfl (V.as rfl) (Rn.regEnd ?_)))
  refine Rn.ret1 Try.func43 rfl rfl ?_
  have hr : s.create name = (s.begin.1, 3) := by unfold PD.create; rw [if_neg q1, if_pos (by simpa using q2)]
  exact ⟨by rw [hr]; first | done | rfl, F, by rw [hr]; exact ⟨_, _, _, _, (d1.ext x2)⟩, (e1.trans (Ext.fr x2)), fun x hx => .inl hx⟩
  refine Rn.seq (Rn.reg (Rn.v rfl rfl rfl rfl (V.mv rfl) (Rn.v rfl rfl rfl rfl (V.nil rfl) (Rn.v rfl rfl rfl rfl (V.fa Try.underlying54 rfl Try.sizeOf50 rfl rfl) (Rn.v rfl rfl rfl rfl (V.ldB Try.isAgg50 rfl (hB1.ext x2) rfl) (Rn.v rfl rfl rfl rfl (V.mv rfl) (Rn.v rfl rfl rfl rfl (V.to (V.lkp Try.underlying50 Try.underlying9 Try.zeroValue56 rfl rfl (hM1.ext x2)) hp1) (Rn.v rfl rfl rfl rfl (V.neqP Try.underlying56 rfl rfl) (Rn.v rfl rfl rfl rfl (V.as rfl) (Rn.regEnd ?_))))))))))
  refine Rn.condS rfl (fun q3 => ?_) (fun q3 => ?_)
  refine Rn.seq (Rn.reg (Rn.v rfl rfl rfl rfl (V.as rfl) (Rn.regEnd ?_)))
  refine Rn.ret1 Try.func43 rfl rfl ?_
  obtain ⟨_, ff, _, _, hff⟩ := hp3 (by cases pv with | none => simp at q3 | some a => rfl)
  rw [PD.begin_files] at hff
  have hr : s.create name = (s.begin.1, 8) := by unfold PD.create; rw [if_neg q1, if_neg (fun hh => by rw [hh] at q2; simp at q2), if_pos (by rw [hff]; rfl)]
  exact ⟨by rw [hr]; first | done | rfl, F, by rw [hr]; exact ⟨_, _, _, _, (d1.ext x2)⟩, (e1.trans (Ext.fr x2)), fun x hx => .inl hx⟩
  obtain ⟨hlk, hfn⟩ := hp2 (by cases pv with | none => rfl | some a => simp at q3)
  rw [PD.begin_files] at hfn
  have hlen := d1.files.length
  rw [PD.begin_files] at hlen
  refine Rn.seq (Rn.reg (Rn.v rfl rfl rfl rfl (V.mv rfl) (Rn.v rfl rfl rfl rfl (V.nil rfl) (Rn.v rfl rfl rfl rfl (V.fa Try.underlying54 rfl Try.sizeOf50 rfl rfl) (Rn.v rfl rfl rfl rfl (V.ldB Try.isAgg50 rfl (hB1.ext x2) rfl) (Rn.v rfl rfl rfl rfl (V.lenM Try.underlying50 rfl (hM1.ext x2)) (Rn.v rfl rfl rfl rfl (V.eql rfl rfl) (Rn.v rfl rfl rfl rfl (V.as rfl) (Rn.regEnd ?_)))))))))
  refine Rn.condD rfl (fun q4 => ?_) (fun q4 => ?_)
  refine Rn.seq (Rn.reg (Rn.v rfl rfl rfl rfl (V.as rfl) (Rn.regEnd ?_)))
  refine Rn.ret1 Try.func43 rfl rfl ?_
  have hr : s.create name = (s.begin.1, 6) := by unfold PD.create; rw [if_neg q1, if_neg (fun hh => by rw [hh] at q2; simp at q2), if_neg (by simp [hfn]), if_pos (by omega)]
  exact ⟨by rw [hr]; first | done | rfl, F, by rw [hr]; exact ⟨_, _, _, _, (d1.ext x2)⟩, (e1.trans (Ext.fr x2)), fun x hx => .inl hx⟩
  have hr : s.create name = ({ s.begin.1 with files := putF name ⟨[], 0⟩ s.files }, 0) := by unfold PD.create; rw [if_neg q1, if_neg (fun hh => by rw [hh] at q2; simp at q2), if_neg (by simp [hfn]), if_neg (by omega)]
  have d0 := (d1.ext x2)
  refine Rn.skip (Rn.inBlock (Rn.seq (Rn.reg (Rn.v rfl rfl rfl rfl (V.mv rfl) (Rn.v rfl rfl rfl rfl (V.nil rfl) (Rn.v rfl rfl rfl rfl (V.fa Try.underlying54 rfl Try.sizeOf50 rfl rfl) (Rn.v rfl rfl rfl rfl (V.ldB Try.isAgg50 rfl (hB1.ext x2) rfl) (Rn.v rfl rfl rfl rfl (V.mv rfl) (Rn.v rfl rfl rfl rfl (V.bldS st59 rfl rfl) (Rn.box rfl rfl rfl rfl rfl ?_))))))))))
  intro b3 w3 hb3 m3 x3
  have hz3 : w.heap.size ≤ b3 := by have := ((e1.trans (Ext.fr x2))).size; omega
  have hl3 : b3 < w3.heap.size := m3.lt
  have hs3 := x3.size
  refine Rn.mu rfl rfl Try.underlying50 Try.underlying9 rfl rfl rfl ((hM1.ext x2).ext x3) ?_
  intro k4 w4 m4 x4 hk4
  have e4 : Fr F w w4 := (((e1.trans (Ext.fr x2)).trans (Ext.fr x3))).trans' x4 (fun x hx => by first | (subst hx; exact .inl hFb) | (subst hx; exact .inl hFm))
  have hs4 := x4.size
  refine Rn.regEnd (Rn.seq (Rn.reg (Rn.v rfl rfl rfl rfl (V.as rfl) (Rn.regEnd ?_))))
  refine Rn.ret1 Try.func43 rfl rfl ?_
  have hlt0 := d0.lt
  have hsub := d0.sub
  have hkk : b3 < w3.heap.size := m3.lt
  obtain ⟨bss', hd⟩ := d0.put (name := name) (f := ⟨[], 0⟩) (bs := [b3]) (((Fr.refl (fun x => x = mb) _).trans (Ext.fr x3)).trans (x4.mono (fun y hy => by first | exact .inl hy | exact .inr hy | exact hy))) (fun x _ hx => hx) m4 hk4 ⟨b3, none, 0, rfl, m3.fr x4 (fun hh => by have := hlt0 mb hFm; omega), Own.nil _ _ _ _ _, rfl⟩ (by simp) (fun x hx => by simp at hx; subst hx; exact ⟨fun hh => by have := hlt0 b hFb; omega, fun hh => by have := hlt0 mb hFm; omega, fun hh => by have := hlt0 _ (hsub _ (List.mem_cons_of_mem _ (List.mem_cons_of_mem _ hh))); omega, by omega⟩) rfl
  rw [PD.begin_files] at hd
  have hX := (e4).size
  exact ⟨by rw [hr]; first | done | rfl, _, by rw [hr]; exact ⟨_, _, _, _, hd⟩, e4, fun x hx => by rcases hx with hh | hh; exact .inl hh; simp at hh; exact .inr (by omega)⟩

set_option maxRecDepth 20000 in
theorem rename_spec {b : Nat} {F : Nat → Prop} {s : PD} (from_ to_ : List UInt8) (w : World) (hc : s.calls < 4611686018427387904) (h : DkAt 54 59 5 w b F s) :
    Calls Try.prog 46 #[.pointer (some ⟨b, 0, none⟩), Str from_, Str to_] w fun x w' => x = .returned (.int .i64 (s.rename from_ to_).2) ∧ ∃ F', DkAt 54 59 5 w' b F' (s.rename from_ to_).1 ∧ Fr F w w' ∧ (∀ x, F' x → F x ∨ w.heap.size ≤ x) := by
  obtain ⟨mb, ms, ck, bss, h⟩ := h
  have hFb := h.sub b (by simp)
  have hFm := h.sub mb (by simp)
  refine Rn.enter Try.func46 rfl rfl (Nat.le_of_ble_eq_true rfl) ?_
  refine Rn.seq (Rn.reg (Rn.v rfl rfl rfl rfl (V.as rfl) (Rn.regEnd (Rn.seq (Rn.seq (Rn.reg (Rn.v rfl rfl rfl rfl (V.mv rfl) (Rn.cl ck56 rfl rfl rfl rfl (begin_spec _ hc h) ?_))))))))
  rintro _ w1 ⟨rfl, d1, x1⟩
  have e1 : Fr F w w1 := ((Fr.refl _ _)).trans' x1 (fun x hx => by first | (subst hx; exact .inl hFb) | (subst hx; exact .inl hFm))
  have hs1 := x1.size
  refine ⟨_, rfl, ?_⟩
  refine Rn.v rfl rfl rfl rfl (V.as rfl) (Rn.regEnd (Rn.seq (Rn.reg (Rn.v rfl rfl rfl rfl (V.mv rfl) (Rn.v rfl rfl rfl rfl (V.neq rfl rfl) (Rn.regEnd ?_))))))
  have hB1 := d1.blk
  have hM1 := d1.map
  obtain ⟨pv, hp1, hp2, hp3⟩ := d1.ptr from_
  refine Rn.condD rfl (fun q1 => ?_) (fun q1 => ?_)
  refine Rn.seq (Rn.reg (Rn.v rfl rfl rfl rfl (V.mv rfl) (Rn.v rfl rfl rfl rfl (V.as rfl) (Rn.regEnd ?_))))
  refine Rn.ret1 Try.func46 rfl rfl ?_
  have hr : s.rename from_ to_ = s.begin := if_pos q1
  exact ⟨by rw [hr]; first | done | rfl, F, by rw [hr]; exact ⟨_, _, _, _, d1⟩, e1, fun x hx => .inl hx⟩
  refine Rn.skip (Rn.seq (Rn.reg (Rn.v rfl rfl rfl rfl (V.mv rfl) (Rn.v rfl rfl rfl rfl (V.nil rfl) (Rn.v rfl rfl rfl rfl (V.fa Try.underlying54 rfl Try.sizeOf50 rfl rfl) (Rn.v rfl rfl rfl rfl (V.ldB Try.isAgg50 rfl hB1 rfl) (Rn.v rfl rfl rfl rfl (V.mv rfl) (Rn.v rfl rfl rfl rfl (V.to (V.lkp Try.underlying50 Try.underlying9 Try.zeroValue56 rfl rfl hM1) hp1) (Rn.v rfl rfl rfl rfl (V.as rfl) (Rn.regEnd (Rn.seq (Rn.block (Rn.seq (Rn.reg (Rn.v rfl rfl rfl rfl (V.mv rfl) (Rn.cl ck16 rfl rfl rfl rfl (isName_spec _ _) ?_))))))))))))))))
  rintro _ w2 ⟨rfl, x2⟩
  have hs2 := x2.size
  refine ⟨_, rfl, ?_⟩
  refine Rn.v rfl rfl rfl rfl (V.notB rfl) (Rn.v rfl rfl rfl rfl (V.as rfl) (Rn.regEnd ?_))
  refine Rn.condS rfl (fun q2 => ?_) (fun q2 => ?_)
  refine Rn.seq (Rn.reg (Rn.v rfl rfl rfl rfl (V.as rfl) (Rn.regEnd ?_)))
  refine Rn.ret1 Try.func46 rfl rfl ?_
  have hr : s.rename from_ to_ = (s.begin.1, 3) := by unfold PD.rename; rw [if_neg q1, if_pos (by simpa using q2)]
  exact ⟨by rw [hr]; first | done | rfl, F, by rw [hr]; exact ⟨_, _, _, _, (d1.ext x2)⟩, (e1.trans (Ext.fr x2)), fun x hx => .inl hx⟩
  refine Rn.seq (Rn.reg (Rn.v rfl rfl rfl rfl (V.mv rfl) (Rn.v rfl rfl rfl rfl (V.eqlP Try.underlying56 rfl rfl) (Rn.v rfl rfl rfl rfl (V.as rfl) (Rn.regEnd ?_)))))
  refine Rn.condS rfl (fun q3 => ?_) (fun q3 => ?_)
  refine Rn.seq (Rn.reg (Rn.v rfl rfl rfl rfl (V.as rfl) (Rn.regEnd ?_)))
  refine Rn.ret1 Try.func46 rfl rfl ?_
  have hff := (hp2 q3).2
  rw [PD.begin_files] at hff
  have hr : s.rename from_ to_ = (s.begin.1, 7) := by unfold PD.rename; rw [if_neg q1, if_neg (fun hh => by rw [hh] at q2; simp at q2), hff]
  exact ⟨by rw [hr]; first | done | rfl, F, by rw [hr]; exact ⟨_, _, _, _, (d1.ext x2)⟩, (e1.trans (Ext.fr x2)), fun x hx => .inl hx⟩
  obtain ⟨fb, ff, rfl, hlk, hff⟩ := hp3 q3
  rw [PD.begin_files] at hff
  have hr : s.rename from_ to_ = ({ s.begin.1 with files := putF to_ ff (delF from_ s.files) }, 0) := by unfold PD.rename; rw [if_neg q1, if_neg (fun hh => by rw [hh] at q2; simp at q2), hff]
  have d0 := (d1.ext x2)
  have hne1 := d1.ne.1
  refine Rn.skip (Rn.inBlock (Rn.seq (Rn.reg (Rn.v rfl rfl rfl rfl (V.mv rfl) (Rn.v rfl rfl rfl rfl (V.nil rfl) (Rn.v rfl rfl rfl rfl (V.fa Try.underlying54 rfl Try.sizeOf50 rfl rfl) (Rn.v rfl rfl rfl rfl (V.ldB Try.isAgg50 rfl (hB1.ext x2) rfl) (Rn.v rfl rfl rfl rfl (V.mv rfl) (Rn.del rfl rfl rfl Try.underlying50 Try.underlying9 rfl rfl (hM1.ext x2) ?_)))))))))
  intro w3 m3 x3
  have e3 : Fr F w w3 := ((e1.trans (Ext.fr x2))).trans' x3 (fun x hx => by first | (subst hx; exact .inl hFb) | (subst hx; exact .inl hFm))
  have hs3 := x3.size
  refine Rn.regEnd (Rn.seq (Rn.reg (Rn.v rfl rfl rfl rfl (V.mv rfl) (Rn.v rfl rfl rfl rfl (V.nil rfl) (Rn.v rfl rfl rfl rfl (V.fa Try.underlying54 rfl Try.sizeOf50 rfl rfl) (Rn.v rfl rfl rfl rfl (V.ldB Try.isAgg50 rfl ((hB1.ext x2).fr x3 (by first | omega | exact hne1)) rfl) (Rn.v rfl rfl rfl rfl (V.mv rfl) (Rn.v rfl rfl rfl rfl (V.mv rfl) (Rn.mu rfl rfl Try.underlying50 Try.underlying9 rfl rfl rfl m3 ?_)))))))))
  intro k4 w4 m4 x4 hk4
  have e4 : Fr F w w4 := (e3).trans' x4 (fun x hx => by first | (subst hx; exact .inl hFb) | (subst hx; exact .inl hFm))
  have hs4 := x4.size
  refine Rn.regEnd (Rn.seq (Rn.reg (Rn.v rfl rfl rfl rfl (V.as rfl) (Rn.regEnd ?_))))
  refine Rn.ret1 Try.func46 rfl rfl ?_
  obtain ⟨f', bs, bss', hf', hfa, hd, hbn, hbs, _⟩ := d0.del hlk x3 (fun x _ hx => hx) m3 rfl
  rw [PD.begin_files, hff] at hf'
  cases hf'
  obtain ⟨bss2, hd2⟩ := hd.put (name := to_) (f := ff) (bs := bs) x4 (fun x _ hx => hx) m4 hk4 (hfa.fr x4 (fun x hx hh => (hbs x hx).2.2.1 hh)) hbn (fun x hx => ⟨(hbs x hx).2.1, (hbs x hx).2.2.1, (hbs x hx).2.2.2, Nat.lt_of_lt_of_le (hd.lt x (hbs x hx).1) x4.size⟩) rfl
  dsimp only at hd2
  rw [PD.begin_files] at hd2
  exact ⟨by rw [hr]; first | done | rfl, _, by rw [hr]; exact ⟨_, _, _, _, hd2⟩, e4, fun x hx => by rcases hx with hh | hh; exact .inl hh; exact .inl (hbs x hh).1⟩

end Go.Proofs.Ytpeloppldpdonaa
