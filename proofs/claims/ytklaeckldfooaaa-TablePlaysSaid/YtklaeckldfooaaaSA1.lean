/-
  The calls of functions of the program answer as their plain forms say, part 1. Printed by a program.
-/
import Derived.Test.YtklaeckldfooaaaRows
import Derived.Test.YtklaeckldfooaaaMA
import Derived.Test.YtklaeckldfooaaaWv
import Derived.Test.YtklaeckldfooaaaIt
namespace Go.Proofs.Ytklaeckldfooaaa
open Go Go.RowKit Go.Wk
theorem ck5 : CallOk Try.prog 5 := ⟨_, _, Try.func5, rfl, by kernel_rfl⟩
theorem ck6 : CallOk Try.prog 6 := ⟨_, _, Try.func6, rfl, by kernel_rfl⟩
theorem ck7 : CallOk Try.prog 7 := ⟨_, _, Try.func7, rfl, by kernel_rfl⟩
theorem ck8 : CallOk Try.prog 8 := ⟨_, _, Try.func8, rfl, by kernel_rfl⟩
theorem ck9 : CallOk Try.prog 9 := ⟨_, _, Try.func9, rfl, by kernel_rfl⟩
theorem ck10 : CallOk Try.prog 10 := ⟨_, _, Try.func10, rfl, by kernel_rfl⟩
theorem ck11 : CallOk Try.prog 11 := ⟨_, _, Try.func11, rfl, by kernel_rfl⟩
theorem ck12 : CallOk Try.prog 12 := ⟨_, _, Try.func12, rfl, by kernel_rfl⟩
theorem ck13 : CallOk Try.prog 13 := ⟨_, _, Try.func13, rfl, by kernel_rfl⟩
theorem ck14 : CallOk Try.prog 14 := ⟨_, _, Try.func14, rfl, by kernel_rfl⟩
theorem ck15 : CallOk Try.prog 15 := ⟨_, _, Try.func15, rfl, by kernel_rfl⟩
theorem ck16 : CallOk Try.prog 16 := ⟨_, _, Try.func16, rfl, by kernel_rfl⟩
theorem ck17 : CallOk Try.prog 17 := ⟨_, _, Try.func17, rfl, by kernel_rfl⟩
theorem ck18 : CallOk Try.prog 18 := ⟨_, _, Try.func18, rfl, by kernel_rfl⟩
theorem ck19 : CallOk Try.prog 19 := ⟨_, _, Try.func19, rfl, by kernel_rfl⟩
theorem ck20 : CallOk Try.prog 20 := ⟨_, _, Try.func20, rfl, by kernel_rfl⟩
theorem ck21 : CallOk Try.prog 21 := ⟨_, _, Try.func21, rfl, by kernel_rfl⟩
theorem ck22 : CallOk Try.prog 22 := ⟨_, _, Try.func22, rfl, by kernel_rfl⟩
theorem ck23 : CallOk Try.prog 23 := ⟨_, _, Try.func23, rfl, by kernel_rfl⟩
theorem ck24 : CallOk Try.prog 24 := ⟨_, _, Try.func24, rfl, by kernel_rfl⟩
theorem st48 : StOk Try.prog 48 [.int .i64 0, .int .i64 0, .map none] [(0, 1), (1, 1), (2, 1)] := ⟨Try.zeroValue48, _, Try.underlying48, fun w => by kernel_rfl⟩
theorem st50 : StOk Try.prog 50 [.int .i64 0, .int .i64 0] [(0, 1), (1, 1)] := ⟨Try.zeroValue50, _, Try.underlying50, fun w => by kernel_rfl⟩
theorem st54 : StOk Try.prog 54 [Str [], .int .i64 0] [(0, 1), (1, 1)] := ⟨Try.zeroValue54, _, Try.underlying54, fun w => by kernel_rfl⟩
theorem el9 : ElOk Try.prog 9 1 16 := elOk_of (by kernel_rfl) (by decide)
theorem el54 : ElOk Try.prog 54 2 24 := elOk_of (by kernel_rfl) (by decide)
set_option maxRecDepth 20000 in
theorem mclone_21 {Z0 : Nat → Prop} (w : World) (b : Nat) (ps : Kv T_table_slot_int_) (h : (mapR b vA T_table_slot_int_.rep ps).H Z0 w) :
    Calls Try.prog 21 #[.map (some b)] w fun x w' => ∃ b', x = .returned (.map (some b')) ∧ Hp Z0 No w w' [mapR b' vA T_table_slot_int_.rep ps] := by
  obtain ⟨w1, hr, hE, hH⟩ := mapClone_run (P := Try.prog) (gg := 25) (t := 46) h
  refine Rn.enter Try.func21 rfl rfl (Nat.le_of_ble_eq_true rfl) ?_
  refine Rn.seq (Rn.reg (Rn.v rfl rfl rfl rfl (V.as rfl) (Rn.regEnd (Rn.seq (Rn.seq (Rn.reg (Rn.v rfl rfl rfl rfl (V.mv rfl) (Rn.v rfl rfl rfl rfl (V.eqlMN Try.underlying46 rfl rfl) (Rn.regEnd ?_)))))))))
  refine Rn.condF rfl (Rn.skip (Rn.seq (Rn.reg ?_)))
  refine Rn.v rfl rfl rfl rfl (V.mv rfl) (Rn.v rfl rfl rfl rfl (V.mkI Try.underlying46 (fun _ h => by cases h) rfl) ?_)
  refine Rn.v rfl rfl rfl rfl (V.externW (xs := [_]) Try.func25 (by kernel_rfl) (by kernel_rfl) (by kernel_rfl) (by kernel_rfl) rfl hr) ?_
  refine Rn.v rfl rfl rfl rfl (V.tasM Try.underlying46 rfl) (Rn.v rfl rfl rfl rfl (V.as rfl) (Rn.regEnd ?_))
  refine Rn.retG1 Try.func21 rfl (rvT rfl) ?_
  exact ⟨_, rfl, (Hp.nil Z0 No w).add _ hE (fun x hx => by cases hx; exact Nat.le_refl _) fun Z hZ => hH Z fun x hx hlt => hZ x (zo0 Calm.nil hx) hlt⟩

set_option maxRecDepth 20000 in
theorem oldest_17 {Z : Nat → Prop} {b mb : Nat} {c0 c1 : Value} {ms : Ms} {ck : Nat} {ps : Kv T_table_slot_int_} (w : World) (hB : Blk w b 48 [c0, c1, .map (some mb)]) (h : MpA vA T_table_slot_int_.rep Z w mb ms ck ps) (hpos : ∀ p ∈ ps, 0 < p.2.when) (hne : (ps.map (·.2)).Pairwise fun x y => x.when ≠ y.when) :
    Calls Try.prog 17 #[.pointer (some ⟨b, 0, none⟩)] w fun x w' => x = .returned (.tuple #[Str (oldK (fun x : T_table_slot_int_ => x.when) ps).1, .bool (decide ((oldK (fun x : T_table_slot_int_ => x.when) ps).2 > 0))]) ∧ Ext w w' := by
  have hM := h.mp
  have hlb := hB.lt
  have hlm := hM.lt
  have hkn : (ps.map (·.1)).Nodup := h.rp.names ▸ h.keys
  refine Rn.enter Try.func17 rfl rfl (Nat.le_of_ble_eq_true rfl) ?_
  refine Rn.seq (Rn.reg (Rn.v rfl rfl rfl rfl (V.as rfl) (Rn.v rfl rfl rfl rfl (V.as rfl) (Rn.regEnd (Rn.seq (Rn.reg (Rn.v rfl rfl rfl rfl (V.as rfl) (Rn.v rfl rfl rfl rfl (V.as rfl) (Rn.regEnd (Rn.seq (Rn.seq (Rn.reg (Rn.v rfl rfl rfl rfl (V.mv rfl) (Rn.v rfl rfl rfl rfl (V.nil rfl) (Rn.v rfl rfl rfl rfl (V.fa Try.underlying48 rfl Try.sizeOf46 rfl rfl) (Rn.v rfl rfl rfl rfl (V.ldB Try.isAgg46 rfl hB rfl) (Rn.rng rfl rfl rfl Try.underlying46 rfl hM ?_)))))))))))))))))
  intro b1 w1 hb1 i1 x1
  have hs1 := x1.size
  refine Rn.regEnd (Rn.block ?_)
  refine Rn.loopI (G := (List UInt8 × Int × List Nat)) (fun g => [(4, Str (g.1)), (5, .int .i64 (g.2.1)), (12, .pointer (some ⟨b1, 0, none⟩)), (0, .pointer (some ⟨b, 0, none⟩))]) (fun g w' => Itr w' b1 mb ck (g.2.2) ∧ OldI (fun x : T_table_slot_int_ => x.when) ps ms (g.2.2) (g.1) (g.2.1) ∧ Ext w w') (fun g => (leftM ms (g.2.2)).length) ([], 0, []) ?_ ?_ ?_
  · exact Sub.cons rfl (Sub.cons (lki _ rfl (by first | omega | rfl | (dsimp only; omega))) (Sub.cons rfl (Sub.cons rfl (Sub.nil _))))
  · exact ⟨i1, .inl ⟨rfl, rfl, by simp⟩, x1⟩
  rintro ⟨o, a, sn⟩ w2 ⟨i2, hold, x2⟩ hn2
  show Rn _ _ _ _ _ [(4, Str o), (5, .int .i64 a), (12, .pointer (some ⟨b1, 0, none⟩)), (0, .pointer (some ⟨b, 0, none⟩))] _
  have hs2 := x2.size
  refine Rn.seq (Rn.reg ?_)
  refine Rn.nxt rfl rfl rfl rfl (hM.ext x2) i2 h.born (fun hle => ?_) (fun p3 w3 hp3 i3 x3 => ?_)
  refine Rn.v rfl rfl rfl rfl (V.ext rfl rfl) (Rn.regEnd (Rn.seq (Rn.condF rfl (Rn.exit rfl (Rn.seq (Rn.reg (Rn.v rfl rfl rfl rfl (V.mv rfl) (Rn.v rfl rfl rfl rfl (V.mv rfl) (Rn.v rfl rfl rfl rfl (V.gtr rfl rfl) (Rn.v rfl rfl rfl rfl (V.as rfl) (Rn.v rfl rfl rfl rfl (V.as rfl) (Rn.regEnd ?_))))))))))))
  refine Rn.ret2 Try.func17 rfl rfl rfl ?_
  have hd := hold.done hpos hne h.rp.names hle
  exact ⟨by rw [← hd], x2⟩
  have e3 : Ext w w3 := (x2).trans' x3 (fun x hx => .inr (by subst hx; omega))
  have hs3 := x3.size
  dsimp only at hp3 i3 hold
  have hpm := leftM_sub' hp3
  obtain ⟨vs, x, hpv, hrel, hmem⟩ := h.rp.entry hpm
  obtain ⟨_, _, rfl, ⟨rfl, _⟩, ⟨rfl, _⟩⟩ := hrel
  obtain ⟨hst1, hst2⟩ := hold.step hpos hkn h.bnd hpm hmem
  have hlen := leftM_len h.bnd hp3
  refine Rn.v rfl rfl rfl rfl (V.ext rfl rfl) (Rn.regEnd (Rn.seq (Rn.condT rfl (Rn.skip (Rn.block (Rn.seq (Rn.reg (Rn.v rfl rfl rfl rfl (V.entry rfl (hM.ext e3) i3 hpm h.bnd) (Rn.v rfl rfl rfl rfl (V.ext rfl rfl) (Rn.v rfl rfl rfl rfl (V.to (V.ext rfl rfl) hpv) (Rn.alloc rfl rfl rfl Try.zeroValue50 rfl ?_)))))))))))
  intro b4 w4 hb4 m4 x4
  have hz4 : w.heap.size ≤ b4 := by have := (e3).size; omega
  have hl4 : b4 < w4.heap.size := m4.lt
  have hs4 := x4.size
  refine Rn.v rfl rfl rfl rfl (V.as rfl) (Rn.st rfl rfl Try.sizeOf50 rfl rfl rfl rfl (by first | exact ones rfl | (simp [Value.oneCell']; done)) m4 (by first | exact Nat.le_of_ble_eq_true rfl | (simp; done)) ?_)
  intro w5 m5 x5
  have e5 : Ext w w5 := ((e3.trans x4)).trans' x5 (fun x hx => .inr (by subst hx; omega))
  have hs5 := x5.size
  refine Rn.regEnd (Rn.seq (Rn.reg (Rn.v rfl rfl rfl rfl (V.mv rfl) (Rn.v rfl rfl rfl rfl (V.eql rfl rfl) (Rn.v rfl rfl rfl rfl (V.mv rfl) ?_)))))
  have hlb1 := i3.lt
  refine Rn.partD (t := 20) rfl (fun h1 => ?_) (fun h1 => ?_)
  refine Rn.no rfl rfl rfl rfl (Rn.no rfl rfl rfl rfl (Rn.no rfl rfl rfl rfl (Rn.no rfl rfl rfl rfl (Rn.v rfl rfl rfl rfl (V.pkT rfl rfl) (Rn.regEnd (Rn.condT rfl ?_))))))
  refine Rn.drawE rfl ?_
  intro w6 x6
  have hs6 := x6.size
  refine RH.take 0 (by kernel_rfl) rfl rfl rfl rfl (fun w' hDr => V.mv rfl) ?_
  refine RH.take 1 (by kernel_rfl) rfl rfl rfl rfl (fun w' hDr => V.fa Try.underlying50 rfl Try.sizeOf3 rfl rfl) ?_
  refine RH.take 2 (by kernel_rfl) rfl rfl rfl rfl (fun w' hDr => V.ldB Try.isAgg3 rfl ((m5.ext x6).ext hDr) rfl) ?_
  refine RH.take 3 (by kernel_rfl) rfl rfl rfl rfl (fun w' hDr => V.as rfl) ?_
  refine RH.take 4 (by kernel_rfl) rfl rfl rfl rfl (fun w' hDr => V.as rfl) ?_
  refine RH.done (by kernel_rfl) (fun xd6 => ?_)
  refine Rn.inBlock ?_
  exact hn2 (p3.1, x.when, sn ++ [p3.2.2]) _ _ (Sub.cons rfl (Sub.cons (lki _ rfl (by first | omega | rfl | (dsimp only; omega))) (Sub.cons rfl (Sub.cons rfl (Sub.nil _))))) (⟨(((i3.ext x4).fr x5 (by first | omega | (intro b hb hh; have := hb.2; omega))).ext x6), hst1 (.inl h1), (e5.trans x6)⟩) (by dsimp only; omega)
  refine Rn.v rfl rfl rfl rfl (V.fa Try.underlying50 rfl Try.sizeOf3 rfl rfl) (Rn.v rfl rfl rfl rfl (V.ldB Try.isAgg3 rfl m5 rfl) (Rn.v rfl rfl rfl rfl (V.mv rfl) (Rn.v rfl rfl rfl rfl (V.lss rfl rfl) (Rn.v rfl rfl rfl rfl (V.pkF rfl rfl) (Rn.regEnd ?_)))))
  refine Rn.condD rfl (fun h2 => ?_) (fun h2 => ?_)
  refine Rn.drawE rfl ?_
  intro w7 x7
  have hs7 := x7.size
  refine RH.take 0 (by kernel_rfl) rfl rfl rfl rfl (fun w' hDr => V.mv rfl) ?_
  refine RH.take 1 (by kernel_rfl) rfl rfl rfl rfl (fun w' hDr => V.fa Try.underlying50 rfl Try.sizeOf3 rfl rfl) ?_
  refine RH.take 2 (by kernel_rfl) rfl rfl rfl rfl (fun w' hDr => V.ldB Try.isAgg3 rfl ((m5.ext x7).ext hDr) rfl) ?_
  refine RH.take 3 (by kernel_rfl) rfl rfl rfl rfl (fun w' hDr => V.as rfl) ?_
  refine RH.take 4 (by kernel_rfl) rfl rfl rfl rfl (fun w' hDr => V.as rfl) ?_
  refine RH.done (by kernel_rfl) (fun xd7 => ?_)
  refine Rn.inBlock ?_
  exact hn2 (p3.1, x.when, sn ++ [p3.2.2]) _ _ (Sub.cons rfl (Sub.cons (lki _ rfl (by first | omega | rfl | (dsimp only; omega))) (Sub.cons rfl (Sub.cons rfl (Sub.nil _))))) (⟨(((i3.ext x4).fr x5 (by first | omega | (intro b hb hh; have := hb.2; omega))).ext x7), hst1 (.inr h2), (e5.trans x7)⟩) (by dsimp only; omega)
  refine Rn.skip (Rn.inBlock ?_)
  exact hn2 (o, a, sn ++ [p3.2.2]) _ _ (Sub.cons rfl (Sub.cons (lki _ rfl (by first | omega | rfl | (dsimp only; omega))) (Sub.cons rfl (Sub.cons rfl (Sub.nil _))))) (⟨((i3.ext x4).fr x5 (by first | omega | (intro b hb hh; have := hb.2; omega))), hst2 (not_or.2 ⟨h1, h2⟩), e5⟩) (by dsimp only; omega)

set_option maxRecDepth 20000 in
theorem m_table_New_int_sim {Z0 : Nat → Prop} (w : World) (x0 : Int) {r : T_table_Table_int_}  (hM : m_table_New_int x0 = some r) :
    Calls Try.prog 7 #[.int .i64 (x0)] w fun x w' => ∃ F_0 b_0, x = .returned (.pointer (some ⟨b_0, 0, none⟩)) ∧ Hp Z0 No w w' [T_table_Table_int_.obj F_0 b_0 r] := by
  have hm0 := Hp.nil Z0 No w
  have hc0 := Calm.nil
  refine Rn.enter Try.func7 rfl rfl (Nat.le_of_ble_eq_true rfl) ?_
  refine Rn.seq (Rn.reg (Rn.v rfl rfl rfl rfl (V.as rfl) (Rn.regEnd (Rn.seq (Rn.reg (Rn.v rfl rfl rfl rfl (V.mv rfl) (Rn.v rfl rfl rfl rfl (V.maxi rfl rfl) (Rn.mkMH vA T_table_slot_int_.rep hm0 rfl rfl rfl ?_))))))))
  intro b1 w1 hm1
  refine Rn.v rfl rfl rfl rfl (V.bldS st48 rfl rfl) (Rn.box rfl rfl rfl rfl rfl ?_)
  intro b3 w3 hb3 m3 e3
  have hm5 : Hp Z0 No w w3 [mapR b1 vA T_table_slot_int_.rep ([] : Kv T_table_slot_int_), boxR b3 48 [.int .i64 (max x0 0), .int .i64 (0), .map (some b1)]] := hm1.addBox hb3 e3 m3
  refine Rn.v rfl rfl rfl rfl (V.as rfl) (Rn.regEnd ?_)
  have hm7 : Hp Z0 No w w3 ([] ++ [boxR b3 48 [.int .i64 (max x0 0), .int .i64 (0), .map (some b1)], mapR b1 vA T_table_slot_int_.rep ([] : Kv T_table_slot_int_)]) := hm5.pick [1, 0] rfl (by decide)
  obtain ⟨F6, hm6⟩ := hm7.fold (T_table_Table_int_.sh b3 ({ most := max x0 0, clock := 0, m := ([] : Kv T_table_slot_int_) } : T_table_Table_int_)) ⟨b1, rfl⟩
  replace hm6 : Hp Z0 No w w3 [T_table_Table_int_.obj F6 b3 ({ most := max x0 0, clock := 0, m := ([] : Kv T_table_slot_int_) } : T_table_Table_int_)] := hm6
  refine Rn.retG1 Try.func7 rfl (rvT rfl) ?_
  obtain rfl := someE hM
  exact ⟨F6, b3, rfl, hm6.pick [0] rfl (by decide)⟩

set_option maxRecDepth 20000 in
theorem m_table_Table_int_Room_sim {Z0 : Nat → Prop} (w : World) (F0 : Nat → Prop) (b0 : Nat) (x0 : T_table_Table_int_) {r : Int} (f0 : (fzR (T_table_Table_int_.obj F0 b0 x0)).H Z0 w) (hM : m_table_Table_int_Room x0 = some r) :
    Calls Try.prog 20 #[.pointer (some ⟨b0, 0, none⟩)] w fun x w' => x = .returned (.int .i64 (r)) ∧ Hp Z0 No w w' [] := by
  have hm0 := Hp.nil Z0 No w
  have hc0 := Calm.nil
  have hm2 := hm0.know (fzR (T_table_Table_int_.obj F0 b0 x0)) (fun _ h => h) (hm0.in0 hc0 f0)
  replace hc0 := hc0.snoc (r := fzR (T_table_Table_int_.obj F0 b0 x0)) (fun _ h => h)
  refine Rn.enter Try.func20 rfl rfl (Nat.le_of_ble_eq_true rfl) ?_
  refine Rn.seq (Rn.reg (Rn.v rfl rfl rfl rfl (V.as rfl) (Rn.regEnd (Rn.seq ?_))))
  refine Rn.drawP rfl hm2 ?_
  intro w3 hm3
  refine RH.takeP 0 (by kernel_rfl) rfl rfl rfl rfl (V.mv rfl) ?_
  refine RH.takeP 1 (by kernel_rfl) rfl rfl rfl rfl (V.nil rfl) ?_
  refine RH.takeP 2 (by kernel_rfl) rfl rfl rfl rfl (V.fa Try.underlying48 rfl Try.sizeOf3 rfl rfl) ?_
  obtain ⟨_, ⟨m4_0, rfl⟩, hm4⟩ := hm3.unfz 0 rfl
  replace hm4 : Hp Z0 No w w3 [fzR (T_table_Table_int_.obj F0 b0 x0), fzR (boxR b0 48 [.int .i64 (x0.most), .int .i64 (x0.clock), .map (some m4_0)]), fzR (mapR m4_0 vA T_table_slot_int_.rep x0.m)] := hm4
  refine RH.takeP 3 (by kernel_rfl) rfl rfl rfl rfl (V.ldB Try.isAgg3 rfl (hm4.getz 1 rfl) rfl) ?_
  refine RH.takeP 4 (by kernel_rfl) rfl rfl rfl rfl (V.mv rfl) ?_
  refine RH.takeP 5 (by kernel_rfl) rfl rfl rfl rfl (V.nil rfl) ?_
  refine RH.takeP 6 (by kernel_rfl) rfl rfl rfl rfl (V.fa Try.underlying48 rfl Try.sizeOf46 rfl rfl) ?_
  refine RH.takeP 7 (by kernel_rfl) rfl rfl rfl rfl (V.ldB Try.isAgg46 rfl (hm4.getz 1 rfl) rfl) ?_
  refine RH.takeP 8 (by kernel_rfl) rfl rfl rfl rfl (V.lenMH Try.underlying46 rfl (hm4.getz 2 rfl)) ?_
  refine RH.takeP 9 (by kernel_rfl) rfl rfl rfl rfl (V.subW rfl rfl) ?_
  refine RH.takeP 10 (by kernel_rfl) rfl rfl rfl rfl (V.as rfl) ?_
  refine RH.doneP (by kernel_rfl) ?_
  refine Rn.retG1 Try.func20 rfl (rvT rfl) ?_
  obtain rfl := someE hM
  exact ⟨rfl, hm4.pick [] rfl (by decide)⟩

set_option maxRecDepth 20000 in
theorem m_table_Table_int_Put_sim {Z0 : Nat → Prop} (w : World) (F0 : Nat → Prop) (b0 : Nat) (x0 : T_table_Table_int_) (x1 : (List UInt8)) (x2 : Int) {r : (Bool × T_table_Table_int_)} (hL : Lent Z0 w [T_table_Table_int_.obj F0 b0 x0]) (hM : m_table_Table_int_Put x0 x1 x2 = some r) :
    Calls Try.prog 11 #[.pointer (some ⟨b0, 0, none⟩), Str (x1), .int .i64 (x2)] w fun x w' => ∃ F_p0, x = .returned (.bool (r.1)) ∧ Hp Z0 (LS [T_table_Table_int_.obj F0 b0 x0]) w w' [T_table_Table_int_.obj F_p0 b0 r.2] := by
  have hm0 := hL.start
  refine Rn.enter Try.func11 rfl rfl (Nat.le_of_ble_eq_true rfl) ?_
  refine Rn.seq (Rn.reg (Rn.v rfl rfl rfl rfl (V.as rfl) (Rn.regEnd (Rn.seq (Rn.seq (Rn.reg (Rn.v rfl rfl rfl rfl (V.mv rfl) (Rn.v rfl rfl rfl rfl (V.nil rfl) (Rn.v rfl rfl rfl rfl (V.fa Try.underlying48 rfl Try.sizeOf46 rfl rfl) ?_)))))))))
  obtain ⟨_, ⟨m2_0, rfl⟩, hm2⟩ := hm0.unf 0 rfl
  replace hm2 : Hp Z0 (LS [T_table_Table_int_.obj F0 b0 x0]) w w [boxR b0 48 [.int .i64 (x0.most), .int .i64 (x0.clock), .map (some m2_0)], mapR m2_0 vA T_table_slot_int_.rep x0.m] := hm2
  refine Rn.v rfl rfl rfl rfl (V.ldB Try.isAgg46 rfl (hm2.get 0 rfl) rfl) (Rn.v rfl rfl rfl rfl (V.mv rfl) ?_)
  obtain ⟨vs4, hl4, hr4⟩ := Map.lkp (hm2.get 1 rfl) x1 (zs := [.int .i64 (0), .int .i64 (0)]) (zm := (({ v := 0, when := 0 } : T_table_slot_int_) : T_table_slot_int_)) (show T_table_slot_int_.rep.rel _ _ _ _ from ⟨_, _, rfl, ⟨rfl, trivial⟩, ⟨rfl, trivial⟩⟩)
  obtain ⟨_, _, rfl, ⟨rfl, _⟩, ⟨rfl, _⟩⟩ := hr4
  refine Rn.v rfl rfl rfl rfl (V.lkpHO hl4 Try.underlying46 Try.underlying9 Try.zeroValue50 rfl rfl) (Rn.v rfl rfl rfl rfl (V.mv rfl) (Rn.v rfl rfl rfl rfl (V.ext rfl rfl) (Rn.v rfl rfl rfl rfl (V.ext rfl rfl) (Rn.als rfl rfl rfl Try.zeroValue50 rfl Try.sizeOf50 rfl rfl rfl rfl (by first | exact ones rfl | (simp [Value.oneCell']; done)) ?_))))
  intro b5 w5 hb5 m5 e5
  have hm7 : Hp Z0 (LS [T_table_Table_int_.obj F0 b0 x0]) w w5 [boxR b0 48 [.int .i64 (x0.most), .int .i64 (x0.clock), .map (some m2_0)], mapR m2_0 vA T_table_slot_int_.rep x0.m, boxR b5 50 [.int .i64 (((lookP x1 x0.m).getD ({ v := 0, when := 0 } : T_table_slot_int_)).v), .int .i64 (((lookP x1 x0.m).getD ({ v := 0, when := 0 } : T_table_slot_int_)).when)]] := hm2.addBox hb5 e5 m5
  refine Rn.v rfl rfl rfl rfl (V.as rfl) (Rn.regEnd (Rn.seq (Rn.reg (Rn.v rfl rfl rfl rfl (V.mv rfl) (Rn.v rfl rfl rfl rfl (V.notB rfl) (Rn.v rfl rfl rfl rfl (V.mv rfl) ?_))))))
  have hm9 : Hp Z0 (LS [T_table_Table_int_.obj F0 b0 x0]) w w5 ([boxR b5 50 [.int .i64 (((lookP x1 x0.m).getD ({ v := 0, when := 0 } : T_table_slot_int_)).v), .int .i64 (((lookP x1 x0.m).getD ({ v := 0, when := 0 } : T_table_slot_int_)).when)]] ++ [boxR b0 48 [.int .i64 (x0.most), .int .i64 (x0.clock), .map (some m2_0)], mapR m2_0 vA T_table_slot_int_.rep x0.m]) := hm7.pick [2, 0, 1] rfl (by decide)
  obtain ⟨F8, hm8⟩ := hm9.fold (T_table_Table_int_.sh b0 x0) ⟨m2_0, rfl⟩
  replace hm8 : Hp Z0 (LS [T_table_Table_int_.obj F0 b0 x0]) w w5 [boxR b5 50 [.int .i64 (((lookP x1 x0.m).getD ({ v := 0, when := 0 } : T_table_slot_int_)).v), .int .i64 (((lookP x1 x0.m).getD ({ v := 0, when := 0 } : T_table_slot_int_)).when)], T_table_Table_int_.obj F8 b0 x0] := hm8
  obtain ⟨j1, hj1, hM⟩ := jnE hM
  refine Rn.joinR (r := r) (G := Bool × (Nat → Prop)) [] (fun g => [(0, .pointer (some ⟨b0, 0, none⟩)), (1, Str (x1)), (2, .int .i64 (x2)), (24, .bool ((g.1)))]) (fun g w' => Hp Z0 (LS [T_table_Table_int_.obj F0 b0 x0]) w w' [boxR b5 50 [.int .i64 (((lookP x1 x0.m).getD ({ v := 0, when := 0 } : T_table_slot_int_)).v), .int .i64 (((lookP x1 x0.m).getD ({ v := 0, when := 0 } : T_table_slot_int_)).when)], T_table_Table_int_.obj (g.2) b0 x0]) (fun g => j1 g.1) ?_ ?_
  · subst hj1
    clear hM
    rintro ⟨y11, F10⟩ w12 hm12 hM
    replace hm12 : Hp Z0 (LS [T_table_Table_int_.obj F0 b0 x0]) w w12 [boxR b5 50 [.int .i64 (((lookP x1 x0.m).getD ({ v := 0, when := 0 } : T_table_slot_int_)).v), .int .i64 (((lookP x1 x0.m).getD ({ v := 0, when := 0 } : T_table_slot_int_)).when)], T_table_Table_int_.obj F10 b0 x0] := hm12
    show Rn _ _ _ _ _ [(0, .pointer (some ⟨b0, 0, none⟩)), (1, Str (x1)), (2, .int .i64 (x2)), (24, .bool (y11))] _
    try dsimp only at hM
    refine Rn.regEnd ?_
    refine Rn.condS rfl (fun h13 => ?_) (fun h13 => ?_)
    · replace hM := iteT h13 hM
      refine Rn.seq (Rn.reg (Rn.v rfl rfl rfl rfl (V.as rfl) (Rn.regEnd ?_)))
      refine Rn.retG1 Try.func11 rfl (rvT rfl) ?_
      obtain rfl := someE hM
      exact ⟨F10, rfl, hm12.pick [1] rfl (by decide)⟩
    · replace hM := iteF (by rw [h13]; exact Bool.false_ne_true) hM
      refine Rn.skip (Rn.seq (Rn.reg (Rn.v rfl rfl rfl rfl (V.mv rfl) (Rn.v rfl rfl rfl rfl (V.nil rfl) (Rn.v rfl rfl rfl rfl (V.fa Try.underlying48 rfl Try.sizeOf3 rfl rfl) ?_)))))
      obtain ⟨_, ⟨m14_0, rfl⟩, hm14⟩ := hm12.unf 1 rfl
      replace hm14 : Hp Z0 (LS [T_table_Table_int_.obj F0 b0 x0]) w w12 [boxR b5 50 [.int .i64 (((lookP x1 x0.m).getD ({ v := 0, when := 0 } : T_table_slot_int_)).v), .int .i64 (((lookP x1 x0.m).getD ({ v := 0, when := 0 } : T_table_slot_int_)).when)], boxR b0 48 [.int .i64 (x0.most), .int .i64 (x0.clock), .map (some m14_0)], mapR m14_0 vA T_table_slot_int_.rep x0.m] := hm14
      refine Rn.v rfl rfl rfl rfl (V.ldB Try.isAgg3 rfl (hm14.get 1 rfl) rfl) (Rn.v rfl rfl rfl rfl (V.addW rfl rfl) (Rn.v rfl rfl rfl rfl (V.nil rfl) (Rn.v rfl rfl rfl rfl (V.fa Try.underlying48 rfl Try.sizeOf3 rfl rfl) (Rn.st rfl rfl Try.sizeOf3 rfl rfl rfl rfl (by first | exact ones rfl | (simp [Value.oneCell']; done)) (hm14.get 1 rfl) (by first | exact Nat.le_of_ble_eq_true rfl | (simp; done)) ?_))))
      intro w16 m16 x16
      have hm17 : Hp Z0 (LS [T_table_Table_int_.obj F0 b0 x0]) w w16 [boxR b5 50 [.int .i64 (((lookP x1 x0.m).getD ({ v := 0, when := 0 } : T_table_slot_int_)).v), .int .i64 (((lookP x1 x0.m).getD ({ v := 0, when := 0 } : T_table_slot_int_)).when)], boxR b0 48 [.int .i64 (x0.most), .int .i64 (W64 (x0.clock + 1)), .map (some m14_0)], mapR m14_0 vA T_table_slot_int_.rep x0.m] := hm14.st 1 rfl x16 m16
      refine Rn.regEnd (Rn.seq ?_)
      refine Rn.drawT 11 rfl hm17 (by kernel_rfl) ?_
      intro w18 hm18
      refine RT.v 0 (by kernel_rfl) rfl rfl rfl rfl (V.mv rfl) ?_
      refine RT.v 1 (by kernel_rfl) rfl rfl rfl rfl (V.nil rfl) ?_
      refine RT.v 2 (by kernel_rfl) rfl rfl rfl rfl (V.fa Try.underlying48 rfl Try.sizeOf46 rfl rfl) ?_
      refine RT.v 3 (by kernel_rfl) rfl rfl rfl rfl (V.ldB Try.isAgg46 rfl (hm18.get 1 rfl) rfl) ?_
      refine RT.v 4 (by kernel_rfl) rfl rfl rfl rfl (V.mv rfl) ?_
      refine RT.v 5 (by kernel_rfl) rfl rfl rfl rfl (V.mv rfl) ?_
      refine RT.v 6 (by kernel_rfl) rfl rfl rfl rfl (V.mv rfl) ?_
      refine RT.v 7 (by kernel_rfl) rfl rfl rfl rfl (V.nil rfl) ?_
      refine RT.v 8 (by kernel_rfl) rfl rfl rfl rfl (V.fa Try.underlying48 rfl Try.sizeOf3 rfl rfl) ?_
      refine RT.v 9 (by kernel_rfl) rfl rfl rfl rfl (V.ldB Try.isAgg3 rfl (hm18.get 1 rfl) rfl) ?_
      refine RT.v 10 (by kernel_rfl) rfl rfl rfl rfl (V.bldS st50 rfl rfl) ?_
      refine RT.tail ?_
      refine RH.muH (v := ({ v := x2, when := W64 (x0.clock + 1) } : T_table_slot_int_)) (vs := [.int .i64 (x2), .int .i64 (W64 (x0.clock + 1))]) 11 (by kernel_rfl) hm18 2 rfl rfl rfl Try.underlying46 Try.underlying9 rfl rfl rfl (⟨_, _, rfl, ⟨rfl, trivial⟩, ⟨rfl, trivial⟩⟩) ?_
      intro w19 hm19
      refine ⟨trivial, ?_⟩
      refine RH.doneP (by kernel_rfl) ?_
      refine Rn.seq (Rn.reg (Rn.v rfl rfl rfl rfl (V.as rfl) (Rn.regEnd ?_)))
      have hm21 : Hp Z0 (LS [T_table_Table_int_.obj F0 b0 x0]) w w19 ([boxR b5 50 [.int .i64 (((lookP x1 x0.m).getD ({ v := 0, when := 0 } : T_table_slot_int_)).v), .int .i64 (((lookP x1 x0.m).getD ({ v := 0, when := 0 } : T_table_slot_int_)).when)]] ++ [boxR b0 48 [.int .i64 (x0.most), .int .i64 (W64 (x0.clock + 1)), .map (some m14_0)], mapR m14_0 vA T_table_slot_int_.rep (putP x1 ({ v := x2, when := W64 (x0.clock + 1) } : T_table_slot_int_) x0.m)]) := hm19.pick [0, 1, 2] rfl (by decide)
      obtain ⟨F20, hm20⟩ := hm21.fold (T_table_Table_int_.sh b0 ({ most := x0.most, clock := W64 (x0.clock + 1), m := (putP x1 ({ v := x2, when := W64 (x0.clock + 1) } : T_table_slot_int_) x0.m) } : T_table_Table_int_)) ⟨m14_0, rfl⟩
      replace hm20 : Hp Z0 (LS [T_table_Table_int_.obj F0 b0 x0]) w w19 [boxR b5 50 [.int .i64 (((lookP x1 x0.m).getD ({ v := 0, when := 0 } : T_table_slot_int_)).v), .int .i64 (((lookP x1 x0.m).getD ({ v := 0, when := 0 } : T_table_slot_int_)).when)], T_table_Table_int_.obj F20 b0 ({ most := x0.most, clock := W64 (x0.clock + 1), m := (putP x1 ({ v := x2, when := W64 (x0.clock + 1) } : T_table_slot_int_) x0.m) } : T_table_Table_int_)] := hm20
      refine Rn.retG1 Try.func11 rfl (rvT rfl) ?_
      obtain rfl := someE hM
      exact ⟨F20, rfl, hm20.pick [1] rfl (by decide)⟩
  intro hk1
  clear hj1
  refine Rn.part (t := 20) rfl (fun h22 => ?_) (fun h22 => ?_)
  · replace hM := iteT h22 hM
    refine Rn.v rfl rfl rfl rfl (V.mv rfl) ?_
    obtain ⟨p23, e23, hM⟩ := bindE hM
    refine Rn.cl ck20 rfl rfl rfl rfl (m_table_Table_int_Room_sim (Z0 := All) _ F8 b0 x0 (fz_all (hm8.get 1 rfl)) e23) ?_
    rintro _ w23 ⟨rfl, hq23⟩
    refine ⟨_, rfl, ?_⟩
    have hm24 := hm8.call0 hq23
    refine Rn.v rfl rfl rfl rfl (V.eql rfl rfl) (Rn.v rfl rfl rfl rfl (V.pkT rfl rfl) ?_)
    exact hk1 ((decide (p23 = 0)), F8) _ _ (Sub.cons rfl (Sub.cons rfl (Sub.cons rfl (Sub.cons rfl (Sub.nil _))))) (hm24.pick [0, 1] rfl (by decide)) hM
  · replace hM := iteF (by rw [h22]; exact Bool.false_ne_true) hM
    refine Rn.no rfl rfl rfl rfl (Rn.no rfl rfl rfl rfl (Rn.no rfl rfl rfl rfl (Rn.v rfl rfl rfl rfl (V.pkF rfl rfl) ?_)))
    exact hk1 (false, F8) _ _ (Sub.cons rfl (Sub.cons rfl (Sub.cons rfl (Sub.cons rfl (Sub.nil _))))) (hm8.pick [0, 1] rfl (by decide)) hM

set_option maxRecDepth 20000 in
theorem m_table_Table_int_Get_sim {Z0 : Nat → Prop} (w : World) (F0 : Nat → Prop) (b0 : Nat) (x0 : T_table_Table_int_) (x1 : (List UInt8)) {r : (Int × Bool)} (f0 : (fzR (T_table_Table_int_.obj F0 b0 x0)).H Z0 w) (hM : m_table_Table_int_Get x0 x1 = some r) :
    Calls Try.prog 8 #[.pointer (some ⟨b0, 0, none⟩), Str (x1)] w fun x w' => x = .returned (.tuple #[.int .i64 (r.1), .bool (r.2)]) ∧ Hp Z0 No w w' [] := by
  have hm0 := Hp.nil Z0 No w
  have hc0 := Calm.nil
  have hm2 := hm0.know (fzR (T_table_Table_int_.obj F0 b0 x0)) (fun _ h => h) (hm0.in0 hc0 f0)
  replace hc0 := hc0.snoc (r := fzR (T_table_Table_int_.obj F0 b0 x0)) (fun _ h => h)
  refine Rn.enter Try.func8 rfl rfl (Nat.le_of_ble_eq_true rfl) ?_
  refine Rn.seq (Rn.reg (Rn.v rfl rfl rfl rfl (V.as rfl) (Rn.v rfl rfl rfl rfl (V.as rfl) (Rn.regEnd (Rn.seq (Rn.reg (Rn.v rfl rfl rfl rfl (V.mv rfl) (Rn.v rfl rfl rfl rfl (V.nil rfl) (Rn.v rfl rfl rfl rfl (V.fa Try.underlying48 rfl Try.sizeOf46 rfl rfl) ?_)))))))))
  obtain ⟨_, ⟨m3_0, rfl⟩, hm3⟩ := hm2.unfz 0 rfl
  replace hm3 : Hp Z0 No w w [fzR (T_table_Table_int_.obj F0 b0 x0), fzR (boxR b0 48 [.int .i64 (x0.most), .int .i64 (x0.clock), .map (some m3_0)]), fzR (mapR m3_0 vA T_table_slot_int_.rep x0.m)] := hm3
  refine Rn.v rfl rfl rfl rfl (V.ldB Try.isAgg46 rfl (hm3.getz 1 rfl) rfl) (Rn.v rfl rfl rfl rfl (V.mv rfl) ?_)
  obtain ⟨vs6, hl6, hr6⟩ := Map.lkp (hm3.getz 2 rfl) x1 (zs := [.int .i64 (0), .int .i64 (0)]) (zm := (({ v := 0, when := 0 } : T_table_slot_int_) : T_table_slot_int_)) (show T_table_slot_int_.rep.rel _ _ _ _ from ⟨_, _, rfl, ⟨rfl, trivial⟩, ⟨rfl, trivial⟩⟩)
  obtain ⟨_, _, rfl, ⟨rfl, _⟩, ⟨rfl, _⟩⟩ := hr6
  refine Rn.v rfl rfl rfl rfl (V.lkpHO hl6 Try.underlying46 Try.underlying9 Try.zeroValue50 rfl rfl) (Rn.v rfl rfl rfl rfl (V.mv rfl) (Rn.v rfl rfl rfl rfl (V.ext rfl rfl) (Rn.v rfl rfl rfl rfl (V.ext rfl rfl) (Rn.als rfl rfl rfl Try.zeroValue50 rfl Try.sizeOf50 rfl rfl rfl rfl (by first | exact ones rfl | (simp [Value.oneCell']; done)) ?_))))
  intro b7 w7 hb7 m7 e7
  have hm9 : Hp Z0 No w w7 [fzR (T_table_Table_int_.obj F0 b0 x0), fzR (boxR b0 48 [.int .i64 (x0.most), .int .i64 (x0.clock), .map (some m3_0)]), fzR (mapR m3_0 vA T_table_slot_int_.rep x0.m), boxR b7 50 [.int .i64 (((lookP x1 x0.m).getD ({ v := 0, when := 0 } : T_table_slot_int_)).v), .int .i64 (((lookP x1 x0.m).getD ({ v := 0, when := 0 } : T_table_slot_int_)).when)]] := hm3.addBox hb7 e7 m7
  refine Rn.v rfl rfl rfl rfl (V.as rfl) (Rn.regEnd (Rn.seq (Rn.reg (Rn.v rfl rfl rfl rfl (V.fa Try.underlying50 rfl Try.sizeOf3 rfl rfl) (Rn.v rfl rfl rfl rfl (V.ldB Try.isAgg3 rfl (hm9.get 3 rfl) rfl) (Rn.v rfl rfl rfl rfl (V.mv rfl) (Rn.v rfl rfl rfl rfl (V.as rfl) (Rn.v rfl rfl rfl rfl (V.as rfl) (Rn.regEnd ?_)))))))))
  refine Rn.retG2 Try.func8 rfl (rvT rfl) (rvT rfl) ?_
  obtain rfl := someE hM
  exact ⟨rfl, hm9.pick [] rfl (by decide)⟩

set_option maxRecDepth 20000 in
theorem m_table_Table_int_Oldest_sim {Z0 : Nat → Prop} (w : World) (F0 : Nat → Prop) (b0 : Nat) (x0 : T_table_Table_int_) {r : ((List UInt8) × Bool)} (f0 : (fzR (T_table_Table_int_.obj F0 b0 x0)).H Z0 w) (hM : m_table_Table_int_Oldest x0 = some r) :
    Calls Try.prog 17 #[.pointer (some ⟨b0, 0, none⟩)] w fun x w' => x = .returned (.tuple #[Str (r.1), .bool (r.2)]) ∧ Hp Z0 No w w' [] := by
  unfold m_table_Table_int_Oldest at hM
  split at hM
  · rename_i hg
    obtain rfl := someE hM
    obtain ⟨⟨L, ⟨mb, rfl⟩, hF, hH, hA⟩, hZ⟩ := f0
    obtain ⟨ms, ck, h⟩ := hH 1 _ rfl
    refine (oldest_17 w (hH 0 _ rfl) h hg.1 hg.2).mono ?_
    rintro x w' ⟨rfl, hx⟩
    exact ⟨rfl, (Hp.nil Z0 No w).ext hx⟩
  · cases hM

set_option maxRecDepth 20000 in
theorem m_limnographlaw14_awake_sim {Z0 : Nat → Prop} (w : World)  {r : Bool}  (hM : m_limnographlaw14_awake  = some r) :
    Calls Try.prog 5 #[] w fun x w' => x = .returned (.bool (r)) ∧ Hp Z0 No w w' [] := by
  have hm0 := Hp.nil Z0 No w
  have hc0 := Calm.nil
  refine Rn.enter Try.func5 rfl rfl (Nat.le_of_ble_eq_true rfl) ?_
  refine Rn.seq (Rn.reg (Rn.v rfl rfl rfl rfl (V.as rfl) (Rn.regEnd (Rn.seq (Rn.reg ?_)))))
  obtain ⟨p1, e1, hM⟩ := bindE hM
  refine Rn.cl ck7 rfl rfl rfl rfl (m_table_New_int_sim (Z0 := Zo Z0 No w []) _ 1  e1) ?_
  rintro _ w1 ⟨F1_0, b1_0, rfl, hq1⟩
  refine ⟨_, rfl, ?_⟩
  have hm3 : Hp Z0 No w w1 [T_table_Table_int_.obj F1_0 b1_0 p1] := hm0.callZ hq1
  refine Rn.v rfl rfl rfl rfl (V.as rfl) (Rn.regEnd (Rn.seq (Rn.seq (Rn.reg (Rn.v rfl rfl rfl rfl (V.mv rfl) (Rn.v rfl rfl rfl rfl (V.eqlP Try.underlying25 rfl rfl) (Rn.v rfl rfl rfl rfl (V.mv rfl) (Rn.v rfl rfl rfl rfl (V.mv rfl) ?_))))))))
  obtain ⟨p4, e4, hM⟩ := bindE hM
  have hm5 : Hp Z0 No w w1 ([] ++ [T_table_Table_int_.obj F1_0 b1_0 p1]) := hm3.pick [0] rfl (by decide)
  refine Rn.cl ck11 rfl rfl rfl rfl (m_table_Table_int_Put_sim (Z0 := _) _ F1_0 b1_0 p1 ([97] : List UInt8) 1 hm5.lend e4) ?_
  rintro _ w4 ⟨F4_p0, rfl, hq4⟩
  refine ⟨_, rfl, ?_⟩
  have hm7 : Hp Z0 No w w4 [T_table_Table_int_.obj F4_p0 b1_0 p4.2] := hm5.callAZ hq4
  refine Rn.v rfl rfl rfl rfl (V.notB rfl) (Rn.v rfl rfl rfl rfl (V.pkF rfl rfl) (Rn.v rfl rfl rfl rfl (V.mv rfl) ?_))
  obtain ⟨j1, hj1, hM⟩ := jnE hM
  refine Rn.joinR (r := r) (G := Bool × T_table_Table_int_ × (Nat → Prop)) [11, 12, 13, 14, 15] (fun g => [(1, .pointer (some ⟨b1_0, 0, none⟩)), (17, .bool ((g.1)))]) (fun g w' => Hp Z0 No w w' [T_table_Table_int_.obj (g.2.2) b1_0 (g.2.1)]) (fun g => j1 g.1 g.2.1) ?_ ?_
  · subst hj1
    clear hM
    rintro ⟨y8, y9, F9⟩ w10 hm10 hM
    replace hm10 : Hp Z0 No w w10 [T_table_Table_int_.obj F9 b1_0 y9] := hm10
    show Rn _ _ _ _ _ [(1, .pointer (some ⟨b1_0, 0, none⟩)), (17, .bool (y8))] _
    try dsimp only at hM
    refine Rn.v rfl rfl rfl rfl (V.mv rfl) ?_
    obtain ⟨j2, hj2, hM⟩ := jnE hM
    refine Rn.joinR (r := r) (G := Bool × T_table_Table_int_ × (Nat → Prop)) [] (fun g => [(1, .pointer (some ⟨b1_0, 0, none⟩)), (22, .bool ((g.1)))]) (fun g w' => Hp Z0 No w w' [T_table_Table_int_.obj (g.2.2) b1_0 (g.2.1)]) (fun g => j2 g.1 g.2.1) ?_ ?_
    · subst hj2
      clear hM
      rintro ⟨y11, y12, F12⟩ w13 hm13 hM
      replace hm13 : Hp Z0 No w w13 [T_table_Table_int_.obj F12 b1_0 y12] := hm13
      show Rn _ _ _ _ _ [(1, .pointer (some ⟨b1_0, 0, none⟩)), (22, .bool (y11))] _
      try dsimp only at hM
      refine Rn.regEnd ?_
      refine Rn.condS rfl (fun h14 => ?_) (fun h14 => ?_)
      · replace hM := iteT h14 hM
        refine Rn.seq (Rn.reg (Rn.v rfl rfl rfl rfl (V.as rfl) (Rn.regEnd ?_)))
        refine Rn.retG1 Try.func5 rfl (rvT rfl) ?_
        obtain rfl := someE hM
        exact ⟨rfl, hm13.pick [] rfl (by decide)⟩
      · replace hM := iteF (by rw [h14]; exact Bool.false_ne_true) hM
        refine Rn.skip (Rn.seq (Rn.reg (Rn.v rfl rfl rfl rfl (V.mv rfl) ?_)))
        obtain ⟨p15, e15, hM⟩ := bindE hM
        refine Rn.cl ck8 rfl rfl rfl rfl (m_table_Table_int_Get_sim (Z0 := All) _ F12 b1_0 y12 ([97] : List UInt8) (fz_all (hm13.get 0 rfl)) e15) ?_
        rintro _ w15 ⟨rfl, hq15⟩
        refine ⟨_, rfl, ?_⟩
        have hm16 := hm13.call0 hq15
        refine Rn.v rfl rfl rfl rfl (V.mv rfl) (Rn.v rfl rfl rfl rfl (V.ext rfl rfl) (Rn.v rfl rfl rfl rfl (V.ext rfl rfl) (Rn.v rfl rfl rfl rfl (V.as rfl) (Rn.v rfl rfl rfl rfl (V.as rfl) (Rn.regEnd (Rn.seq (Rn.reg (Rn.v rfl rfl rfl rfl (V.mv rfl) ?_))))))))
        obtain ⟨p17, e17, hM⟩ := bindE hM
        refine Rn.cl ck17 rfl rfl rfl rfl (m_table_Table_int_Oldest_sim (Z0 := All) _ F12 b1_0 y12 (fz_all (hm16.get 0 rfl)) e17) ?_
        rintro _ w17 ⟨rfl, hq17⟩
        refine ⟨_, rfl, ?_⟩
        have hm18 := hm16.call0 hq17
        refine Rn.v rfl rfl rfl rfl (V.mv rfl) (Rn.v rfl rfl rfl rfl (V.ext rfl rfl) (Rn.v rfl rfl rfl rfl (V.ext rfl rfl) (Rn.v rfl rfl rfl rfl (V.as rfl) (Rn.v rfl rfl rfl rfl (V.as rfl) (Rn.regEnd (Rn.seq (Rn.reg (Rn.v rfl rfl rfl rfl (V.mv rfl) (Rn.v rfl rfl rfl rfl (V.eql rfl rfl) (Rn.v rfl rfl rfl rfl (V.mv rfl) ?_))))))))))
        refine Rn.cutR [5, 6, 7, 8, 9, 10, 11, 12] [(4, Str (p17.1)), (5, .bool (p17.2)), (37, .bool (decide ((p15.1 = 3) ∧ (p15.2 = true))))] (fun hk19 => ?_) ?_
        · refine Rn.partD (t := 35) rfl (fun h20 => ?_) (fun h20 => ?_)
          · refine Rn.v rfl rfl rfl rfl (V.mv rfl) (Rn.v rfl rfl rfl rfl (V.pkT rfl rfl) ?_)
            refine hk19 _ ?_
            exact Sub.cons rfl (Sub.cons rfl (Sub.cons (lkv _ rfl (by first | exact andT h20 | exact andF h20 | exact orT h20 | exact orF h20 | exact nandF h20 | exact nandT h20 | exact norT h20 | exact norF h20 | (simp [h20]; done) | grind)) (Sub.nil _)))
          · refine Rn.no rfl rfl rfl rfl (Rn.v rfl rfl rfl rfl (V.pkF rfl rfl) ?_)
            refine hk19 _ ?_
            exact Sub.cons rfl (Sub.cons rfl (Sub.cons (lkv _ rfl (by first | exact andT h20 | exact andF h20 | exact orT h20 | exact orF h20 | exact nandF h20 | exact nandT h20 | exact norT h20 | exact norF h20 | (simp [h20]; done) | grind)) (Sub.nil _)))
        refine Rn.v rfl rfl rfl rfl (V.mv rfl) ?_
        refine Rn.cutR [9, 10, 11, 12] [(5, .bool (p17.2)), (41, .bool (decide (((p15.1 = 3) ∧ (p15.2 = true)) ∧ (p17.1 = ([97] : List UInt8)))))] (fun hk21 => ?_) ?_
        · refine Rn.partD (t := 38) rfl (fun h22 => ?_) (fun h22 => ?_)
          · refine Rn.v rfl rfl rfl rfl (V.mv rfl) (Rn.v rfl rfl rfl rfl (V.eqlS rfl rfl) (Rn.v rfl rfl rfl rfl (V.pkT rfl rfl) ?_))
            refine hk21 _ ?_
            exact Sub.cons rfl (Sub.cons (lkv _ rfl (by first | exact andT h22 | exact andF h22 | exact orT h22 | exact orF h22 | exact nandF h22 | exact nandT h22 | exact norT h22 | exact norF h22 | (simp [h22]; done) | grind)) (Sub.nil _))
          · refine Rn.no rfl rfl rfl rfl (Rn.no rfl rfl rfl rfl (Rn.v rfl rfl rfl rfl (V.pkF rfl rfl) ?_))
            refine hk21 _ ?_
            exact Sub.cons rfl (Sub.cons (lkv _ rfl (by first | exact andT h22 | exact andF h22 | exact orT h22 | exact orF h22 | exact nandF h22 | exact nandT h22 | exact norT h22 | exact norF h22 | (simp [h22]; done) | grind)) (Sub.nil _))
        refine Rn.v rfl rfl rfl rfl (V.mv rfl) ?_
        refine Rn.cutR [12] [(44, .bool (decide ((((p15.1 = 3) ∧ (p15.2 = true)) ∧ (p17.1 = ([97] : List UInt8))) ∧ (p17.2 = true))))] (fun hk23 => ?_) ?_
        · refine Rn.partD (t := 42) rfl (fun h24 => ?_) (fun h24 => ?_)
          · refine Rn.v rfl rfl rfl rfl (V.mv rfl) (Rn.v rfl rfl rfl rfl (V.pkT rfl rfl) ?_)
            refine hk23 _ ?_
            exact Sub.cons (lkv _ rfl (by first | exact andT h24 | exact andF h24 | exact orT h24 | exact orF h24 | exact nandF h24 | exact nandT h24 | exact norT h24 | exact norF h24 | (simp [h24]; done) | grind)) (Sub.nil _)
          · refine Rn.no rfl rfl rfl rfl (Rn.v rfl rfl rfl rfl (V.pkF rfl rfl) ?_)
            refine hk23 _ ?_
            exact Sub.cons (lkv _ rfl (by first | exact andT h24 | exact andF h24 | exact orT h24 | exact orF h24 | exact nandF h24 | exact nandT h24 | exact norT h24 | exact norF h24 | (simp [h24]; done) | grind)) (Sub.nil _)
        refine Rn.v rfl rfl rfl rfl (V.as rfl) (Rn.regEnd ?_)
        refine Rn.retG1 Try.func5 rfl (rvT rfl) ?_
        obtain rfl := someE hM
        exact ⟨rfl, hm18.pick [] rfl (by decide)⟩
    intro hk2
    clear hj2
    refine Rn.part (t := 18) rfl (fun h25 => ?_) (fun h25 => ?_)
    · replace hM := iteT h25 hM
      refine Rn.no rfl rfl rfl rfl (Rn.no rfl rfl rfl rfl (Rn.no rfl rfl rfl rfl (Rn.v rfl rfl rfl rfl (V.pkT rfl rfl) ?_)))
      exact hk2 (true, y9, F9) _ _ (Sub.cons rfl (Sub.cons rfl (Sub.nil _))) (hm10.pick [0] rfl (by decide)) hM
    · replace hM := iteF (by rw [h25]; exact Bool.false_ne_true) hM
      refine Rn.v rfl rfl rfl rfl (V.mv rfl) ?_
      obtain ⟨p26, e26, hM⟩ := bindE hM
      have hm27 : Hp Z0 No w w10 ([] ++ [T_table_Table_int_.obj F9 b1_0 y9]) := hm10.pick [0] rfl (by decide)
      refine Rn.cl ck11 rfl rfl rfl rfl (m_table_Table_int_Put_sim (Z0 := _) _ F9 b1_0 y9 ([97] : List UInt8) 3 hm27.lend e26) ?_
      rintro _ w26 ⟨F26_p0, rfl, hq26⟩
      refine ⟨_, rfl, ?_⟩
      have hm29 : Hp Z0 No w w26 [T_table_Table_int_.obj F26_p0 b1_0 p26.2] := hm27.callAZ hq26
      refine Rn.v rfl rfl rfl rfl (V.notB rfl) (Rn.v rfl rfl rfl rfl (V.pkF rfl rfl) ?_)
      exact hk2 ((!p26.1), p26.2, F26_p0) _ _ (Sub.cons rfl (Sub.cons rfl (Sub.nil _))) (hm29.pick [0] rfl (by decide)) hM
  intro hk1
  clear hj1
  refine Rn.part (t := 14) rfl (fun h30 => ?_) (fun h30 => ?_)
  · replace hM := iteT h30 hM
    refine Rn.no rfl rfl rfl rfl (Rn.no rfl rfl rfl rfl (Rn.v rfl rfl rfl rfl (V.pkT rfl rfl) ?_))
    exact hk1 (true, p4.2, F4_p0) _ _ (Sub.cons rfl (Sub.cons rfl (Sub.nil _))) (hm7.pick [0] rfl (by decide)) hM
  · replace hM := iteF (by rw [h30]; exact Bool.false_ne_true) hM
    refine Rn.v rfl rfl rfl rfl (V.mv rfl) ?_
    obtain ⟨p31, e31, hM⟩ := bindE hM
    have hm32 : Hp Z0 No w w4 ([] ++ [T_table_Table_int_.obj F4_p0 b1_0 p4.2]) := hm7.pick [0] rfl (by decide)
    refine Rn.cl ck11 rfl rfl rfl rfl (m_table_Table_int_Put_sim (Z0 := _) _ F4_p0 b1_0 p4.2 ([98] : List UInt8) 2 hm32.lend e31) ?_
    rintro _ w31 ⟨F31_p0, rfl, hq31⟩
    refine ⟨_, rfl, ?_⟩
    have hm34 : Hp Z0 No w w31 [T_table_Table_int_.obj F31_p0 b1_0 p31.2] := hm32.callAZ hq31
    refine Rn.v rfl rfl rfl rfl (V.pkF rfl rfl) ?_
    exact hk1 (p31.1, p31.2, F31_p0) _ _ (Sub.cons rfl (Sub.cons rfl (Sub.nil _))) (hm34.pick [0] rfl (by decide)) hM

set_option maxRecDepth 20000 in
theorem m_limnographlaw14_few_sim {Z0 : Nat → Prop} (w : World) (A0 : Option Addr) (c0 : Nat) (x0 : (List T_limnographlaw14_Act)) {r : Bool} (f0 : (slR A0 c0 T_limnographlaw14_Act.rep x0).H Z0 w) (hM : m_limnographlaw14_few x0 = some r) :
    Calls Try.prog 6 #[.slice A0 (x0).length c0] w fun x w' => x = .returned (.bool (r)) ∧ Hp Z0 No w w' [] := by
  have hm0 := Hp.nil Z0 No w
  have hc0 := Calm.nil
  have hm2 := hm0.know (slR A0 c0 T_limnographlaw14_Act.rep x0) (fun _ h => h) (hm0.in0 hc0 f0)
  replace hc0 := hc0.snoc (r := slR A0 c0 T_limnographlaw14_Act.rep x0) (fun _ h => h)
  refine Rn.enter Try.func6 rfl rfl (Nat.le_of_ble_eq_true rfl) ?_
  refine Rn.seq (Rn.reg (Rn.v rfl rfl rfl rfl (V.as rfl) (Rn.regEnd (Rn.seq (Rn.seq (Rn.reg (Rn.v rfl rfl rfl rfl (V.mv rfl) (Rn.v rfl rfl rfl rfl (V.lenV Try.underlying22 rfl) (Rn.v rfl rfl rfl rfl (V.gtr rfl rfl) (Rn.regEnd ?_))))))))))
  refine Rn.condD rfl (fun h3 => ?_) (fun h3 => ?_)
  · replace hM := iteT h3 hM
    refine Rn.seq (Rn.reg (Rn.v rfl rfl rfl rfl (V.as rfl) (Rn.regEnd ?_)))
    refine Rn.retG1 Try.func6 rfl (rvT rfl) ?_
    obtain rfl := someE hM
    exact ⟨rfl, hm2.pick [] rfl (by decide)⟩
  · replace hM := iteF h3 hM
    refine Rn.skip (Rn.seq (Rn.seq (Rn.reg (Rn.v rfl rfl rfl rfl (V.as rfl) (Rn.regEnd ?_)))))
    obtain ⟨j1, hj1, hM⟩ := jnE hM
    refine Rn.joinG (r := r) (G := Unit) (fun g => []) (fun g w' => Hp Z0 No w w' [slR A0 c0 T_limnographlaw14_Act.rep x0]) (fun g => j1 ()) ?_ ?_
    · subst hj1
      clear hM
      rintro _ w4 hm4 hM
      replace hm4 : Hp Z0 No w w4 [slR A0 c0 T_limnographlaw14_Act.rep x0] := hm4
      show Rn _ _ _ _ _ [] _
      try dsimp only at hM
      refine Rn.seq (Rn.reg (Rn.v rfl rfl rfl rfl (V.as rfl) (Rn.regEnd ?_)))
      refine Rn.retG1 Try.func6 rfl (rvT rfl) ?_
      obtain rfl := someE hM
      exact ⟨rfl, hm4.pick [] rfl (by decide)⟩
    intro hk1
    clear hj1
    refine Rn.block ?_
    refine Rn.loopF (G := Int) (fun g => [(0, .slice A0 (x0).length c0), (3, .int .i64 (g))]) (fun g w' => Hp Z0 No w w' [slR A0 c0 T_limnographlaw14_Act.rep x0]) (fun n g => m_limnographlaw14_few_L1 x0 j1 n g) fuel 0 (Sub.cons rfl (Sub.cons rfl (Sub.nil _))) (hm2.pick [0] rfl (by decide)) hM (fun _ => rfl) ?_
    clear hM
    rintro m6 y5 w6 hm6 hM hn6
    replace hm6 : Hp Z0 No w w6 [slR A0 c0 T_limnographlaw14_Act.rep x0] := hm6
    show Rn _ _ _ _ _ [(0, .slice A0 (x0).length c0), (3, .int .i64 (y5))] _
    replace hM : m_limnographlaw14_few_L1 x0 j1 (m6 + 1) y5 = some r := hM
    rw [m_limnographlaw14_few_L1] at hM
    refine Rn.seq (Rn.seq (Rn.reg (Rn.v rfl rfl rfl rfl (V.mv rfl) (Rn.v rfl rfl rfl rfl (V.mv rfl) (Rn.v rfl rfl rfl rfl (V.lenV Try.underlying22 rfl) (Rn.v rfl rfl rfl rfl (V.lss rfl rfl) (Rn.regEnd ?_)))))))
    refine Rn.condD rfl (fun h7 => ?_) (fun h7 => ?_)
    · replace hM := iteT h7 hM
      refine Rn.skip (Rn.seq (Rn.block (Rn.seq (Rn.reg (Rn.v rfl rfl rfl rfl (V.mv rfl) (Rn.v rfl rfl rfl rfl (V.mv rfl) ?_))))))
      obtain ⟨z8, e8, hM⟩ := bindE hM
      refine Rn.ixH hm6 0 rfl e8 rfl rfl rfl Try.underlying22 Try.sizeOf29 rfl rfl rfl rfl ?_
      rintro b8 o8 vs8 ⟨_, _, rfl, ⟨rfl, _⟩, ⟨_, _, rfl, ⟨rfl, _⟩, ⟨rfl, _⟩⟩⟩ hm8
      refine Rn.v rfl rfl rfl rfl (V.fa Try.underlying29 rfl Try.sizeOf9 rfl rfl) (Rn.v rfl rfl rfl rfl (V.ldR Try.isAgg9 rfl (hm8.get 1 rfl).2 rfl) (Rn.v rfl rfl rfl rfl (V.lenS Try.underlying9 rfl) (Rn.v rfl rfl rfl rfl (V.gtr rfl rfl) (Rn.regEnd ?_))))
      refine Rn.condD rfl (fun h10 => ?_) (fun h10 => ?_)
      · replace hM := iteT h10 hM
        refine Rn.seq (Rn.reg (Rn.v rfl rfl rfl rfl (V.as rfl) (Rn.regEnd ?_)))
        refine Rn.retG1 Try.func6 rfl (rvT rfl) ?_
        obtain rfl := someE hM
        exact ⟨rfl, hm8.pick [] rfl (by decide)⟩
      · replace hM := iteF h10 hM
        refine Rn.skip (Rn.inBlock (Rn.reg (Rn.v rfl rfl rfl rfl (V.mv rfl) (Rn.v rfl rfl rfl rfl (V.addW rfl rfl) (Rn.v rfl rfl rfl rfl (V.as rfl) (Rn.regEnd ?_))))))
        exact hn6 (W64 (y5 + 1)) _ _ (Sub.cons rfl (Sub.cons rfl (Sub.nil _))) (hm8.pick [0] rfl (by decide)) hM
    · replace hM := iteF h7 hM
      refine Rn.exit rfl ?_
      exact hk1 () _ _ (Sub.nil _) (hm6.pick [0] rfl (by decide)) hM

set_option maxRecDepth 20000 in
theorem m_limnographref14_find_sim {Z0 : Nat → Prop} (w : World) (A0 : Option Addr) (c0 : Nat) (x0 : (List T_limnographref14_Thing)) (x1 : (List UInt8)) {r : Int} (f0 : (slR A0 c0 T_limnographref14_Thing.rep x0).H Z0 w) (hM : m_limnographref14_find x0 x1 = some r) :
    Calls Try.prog 19 #[.slice A0 (x0).length c0, Str (x1)] w fun x w' => x = .returned (.int .i64 (r)) ∧ Hp Z0 No w w' [] := by
  have hm0 := Hp.nil Z0 No w
  have hc0 := Calm.nil
  have hm2 := hm0.know (slR A0 c0 T_limnographref14_Thing.rep x0) (fun _ h => h) (hm0.in0 hc0 f0)
  replace hc0 := hc0.snoc (r := slR A0 c0 T_limnographref14_Thing.rep x0) (fun _ h => h)
  refine Rn.enter Try.func19 rfl rfl (Nat.le_of_ble_eq_true rfl) ?_
  refine Rn.seq (Rn.reg (Rn.v rfl rfl rfl rfl (V.as rfl) (Rn.regEnd (Rn.seq (Rn.seq (Rn.reg (Rn.v rfl rfl rfl rfl (V.as rfl) (Rn.regEnd ?_))))))))
  obtain ⟨j1, hj1, hM⟩ := jnE hM
  refine Rn.joinG (r := r) (G := Unit) (fun g => []) (fun g w' => Hp Z0 No w w' [slR A0 c0 T_limnographref14_Thing.rep x0]) (fun g => j1 ()) ?_ ?_
  · subst hj1
    clear hM
    rintro _ w3 hm3 hM
    replace hm3 : Hp Z0 No w w3 [slR A0 c0 T_limnographref14_Thing.rep x0] := hm3
    show Rn _ _ _ _ _ [] _
    try dsimp only at hM
    refine Rn.seq (Rn.reg (Rn.v rfl rfl rfl rfl (V.as rfl) (Rn.regEnd ?_)))
    refine Rn.retG1 Try.func19 rfl (rvT rfl) ?_
    obtain rfl := someE hM
    exact ⟨rfl, hm3.pick [] rfl (by decide)⟩
  intro hk1
  clear hj1
  refine Rn.block ?_
  refine Rn.loopF (G := Int) (fun g => [(0, .slice A0 (x0).length c0), (1, Str (x1)), (5, .int .i64 (g))]) (fun g w' => Hp Z0 No w w' [slR A0 c0 T_limnographref14_Thing.rep x0]) (fun n g => m_limnographref14_find_L1 x0 x1 j1 n g) fuel 0 (Sub.cons rfl (Sub.cons rfl (Sub.cons rfl (Sub.nil _)))) (hm2.pick [0] rfl (by decide)) hM (fun _ => rfl) ?_
  clear hM
  rintro m5 y4 w5 hm5 hM hn5
  replace hm5 : Hp Z0 No w w5 [slR A0 c0 T_limnographref14_Thing.rep x0] := hm5
  show Rn _ _ _ _ _ [(0, .slice A0 (x0).length c0), (1, Str (x1)), (5, .int .i64 (y4))] _
  replace hM : m_limnographref14_find_L1 x0 x1 j1 (m5 + 1) y4 = some r := hM
  rw [m_limnographref14_find_L1] at hM
  refine Rn.seq (Rn.seq (Rn.reg (Rn.v rfl rfl rfl rfl (V.mv rfl) (Rn.v rfl rfl rfl rfl (V.mv rfl) (Rn.v rfl rfl rfl rfl (V.lenV Try.underlying27 rfl) (Rn.v rfl rfl rfl rfl (V.lss rfl rfl) (Rn.regEnd ?_)))))))
  refine Rn.condD rfl (fun h6 => ?_) (fun h6 => ?_)
  · replace hM := iteT h6 hM
    refine Rn.skip (Rn.seq (Rn.block (Rn.seq (Rn.reg (Rn.v rfl rfl rfl rfl (V.mv rfl) (Rn.v rfl rfl rfl rfl (V.mv rfl) ?_))))))
    obtain ⟨z7, e7, hM⟩ := bindE hM
    refine Rn.ixH hm5 0 rfl e7 rfl rfl rfl Try.underlying27 Try.sizeOf54 rfl rfl rfl rfl ?_
    rintro b7 o7 vs7 ⟨_, _, rfl, ⟨rfl, _⟩, ⟨rfl, _⟩⟩ hm7
    refine Rn.v rfl rfl rfl rfl (V.fa Try.underlying54 rfl Try.sizeOf9 rfl rfl) (Rn.v rfl rfl rfl rfl (V.ldR0 Try.isAgg9 rfl (hm7.get 1 rfl).2 rfl) (Rn.v rfl rfl rfl rfl (V.mv rfl) (Rn.v rfl rfl rfl rfl (V.eqlS rfl rfl) (Rn.regEnd ?_))))
    refine Rn.condD rfl (fun h9 => ?_) (fun h9 => ?_)
    · replace hM := iteT h9 hM
      refine Rn.seq (Rn.reg (Rn.v rfl rfl rfl rfl (V.mv rfl) (Rn.v rfl rfl rfl rfl (V.as rfl) (Rn.regEnd ?_))))
      refine Rn.retG1 Try.func19 rfl (rvT rfl) ?_
      obtain rfl := someE hM
      exact ⟨rfl, hm7.pick [] rfl (by decide)⟩
    · replace hM := iteF h9 hM
      refine Rn.skip (Rn.inBlock (Rn.reg (Rn.v rfl rfl rfl rfl (V.mv rfl) (Rn.v rfl rfl rfl rfl (V.addW rfl rfl) (Rn.v rfl rfl rfl rfl (V.as rfl) (Rn.regEnd ?_))))))
      exact hn5 (W64 (y4 + 1)) _ _ (Sub.cons rfl (Sub.cons rfl (Sub.cons rfl (Sub.nil _)))) (hm7.pick [0] rfl (by decide)) hM
  · replace hM := iteF h6 hM
    refine Rn.exit rfl ?_
    exact hk1 () _ _ (Sub.nil _) (hm5.pick [0] rfl (by decide)) hM

set_option maxRecDepth 20000 in
theorem m_limnographref14_Get_sim {Z0 : Nat → Prop} (w : World) (A0 : Option Addr) (c0 : Nat) (x0 : (List T_limnographref14_Thing)) (x1 : (List UInt8)) {r : (Int × Bool)} (f0 : (slR A0 c0 T_limnographref14_Thing.rep x0).H Z0 w) (hM : m_limnographref14_Get x0 x1 = some r) :
    Calls Try.prog 9 #[.slice A0 (x0).length c0, Str (x1)] w fun x w' => x = .returned (.tuple #[.int .i64 (r.1), .bool (r.2)]) ∧ Hp Z0 No w w' [] := by
  have hm0 := Hp.nil Z0 No w
  have hc0 := Calm.nil
  have hm2 := hm0.know (slR A0 c0 T_limnographref14_Thing.rep x0) (fun _ h => h) (hm0.in0 hc0 f0)
  replace hc0 := hc0.snoc (r := slR A0 c0 T_limnographref14_Thing.rep x0) (fun _ h => h)
  refine Rn.enter Try.func9 rfl rfl (Nat.le_of_ble_eq_true rfl) ?_
  refine Rn.seq (Rn.reg (Rn.v rfl rfl rfl rfl (V.as rfl) (Rn.v rfl rfl rfl rfl (V.as rfl) (Rn.regEnd (Rn.seq (Rn.seq (Rn.reg (Rn.v rfl rfl rfl rfl (V.mv rfl) (Rn.v rfl rfl rfl rfl (V.mv rfl) ?_)))))))))
  obtain ⟨p3, e3, hM⟩ := bindE hM
  refine Rn.cl ck19 rfl rfl rfl rfl (m_limnographref14_find_sim (Z0 := All) _ A0 c0 x0 x1 (slR_all (hm2.get 0 rfl)) e3) ?_
  rintro _ w3 ⟨rfl, hq3⟩
  refine ⟨_, rfl, ?_⟩
  have hm4 := hm2.call0 hq3
  refine Rn.v rfl rfl rfl rfl (V.as rfl) (Rn.regEnd (Rn.seq (Rn.reg (Rn.v rfl rfl rfl rfl (V.mv rfl) (Rn.v rfl rfl rfl rfl (V.geq rfl rfl) (Rn.regEnd ?_))))))
  refine Rn.condD rfl (fun h5 => ?_) (fun h5 => ?_)
  · replace hM := iteT h5 hM
    refine Rn.seq (Rn.reg (Rn.v rfl rfl rfl rfl (V.mv rfl) (Rn.v rfl rfl rfl rfl (V.mv rfl) ?_)))
    obtain ⟨z6, e6, hM⟩ := bindE hM
    refine Rn.ixH hm4 0 rfl e6 rfl rfl rfl Try.underlying27 Try.sizeOf54 rfl rfl rfl rfl ?_
    rintro b6 o6 vs6 ⟨_, _, rfl, ⟨rfl, _⟩, ⟨rfl, _⟩⟩ hm6
    refine Rn.v rfl rfl rfl rfl (V.fa Try.underlying54 rfl Try.sizeOf3 rfl rfl) (Rn.v rfl rfl rfl rfl (V.ldR Try.isAgg3 rfl (hm6.get 1 rfl).2 rfl) (Rn.v rfl rfl rfl rfl (V.as rfl) (Rn.v rfl rfl rfl rfl (V.as rfl) (Rn.regEnd ?_))))
    refine Rn.retG2 Try.func9 rfl (rvT rfl) (rvT rfl) ?_
    obtain rfl := someE hM
    exact ⟨rfl, hm6.pick [] rfl (by decide)⟩
  · replace hM := iteF h5 hM
    refine Rn.skip (Rn.seq (Rn.reg (Rn.v rfl rfl rfl rfl (V.as rfl) (Rn.v rfl rfl rfl rfl (V.as rfl) (Rn.regEnd ?_)))))
    refine Rn.retG2 Try.func9 rfl (rvT rfl) (rvT rfl) ?_
    obtain rfl := someE hM
    exact ⟨rfl, hm4.pick [] rfl (by decide)⟩

set_option maxRecDepth 20000 in
theorem m_limnographref14_Del_sim {Z0 : Nat → Prop} (w : World) (A0 : Option Addr) (c0 : Nat) (x0 : (List T_limnographref14_Thing)) (x1 : (List UInt8)) {r : (List T_limnographref14_Thing)} (f0 : (slR A0 c0 T_limnographref14_Thing.rep x0).H Z0 w) (hM : m_limnographref14_Del x0 x1 = some r) :
    Calls Try.prog 13 #[.slice A0 (x0).length c0, Str (x1)] w fun x w' => ∃ A_0_0 c_0_0, x = .returned (.slice A_0_0 (r).length c_0_0) ∧ Hp Z0 No w w' [ownR 54 A_0_0 c_0_0 T_limnographref14_Thing.rep r] := by
  have hm0 := Hp.nil Z0 No w
  have hc0 := Calm.nil
  have hm2 := hm0.know (slR A0 c0 T_limnographref14_Thing.rep x0) (fun _ h => h) (hm0.in0 hc0 f0)
  replace hc0 := hc0.snoc (r := slR A0 c0 T_limnographref14_Thing.rep x0) (fun _ h => h)
  refine Rn.enter Try.func13 rfl rfl (Nat.le_of_ble_eq_true rfl) ?_
  refine Rn.seq (Rn.reg (Rn.v rfl rfl rfl rfl (V.as rfl) (Rn.regEnd (Rn.seq (Rn.reg (Rn.v rfl rfl rfl rfl (V.as rfl) (Rn.regEnd (Rn.seq (Rn.seq (Rn.reg (Rn.v rfl rfl rfl rfl (V.as rfl) (Rn.regEnd ?_))))))))))))
  obtain ⟨j1, hj1, hM⟩ := jnE hM
  refine Rn.joinG (r := r) (G := (List T_limnographref14_Thing) × Option Addr × Nat) (fun g => [(5, .slice (g.2.1) ((g.1)).length (g.2.2))]) (fun g w' => Hp Z0 No w w' [slR A0 c0 T_limnographref14_Thing.rep x0, ownR 54 (g.2.1) (g.2.2) T_limnographref14_Thing.rep (g.1)]) (fun g => j1 g.1) ?_ ?_
  · subst hj1
    clear hM
    rintro ⟨y3, A4, c4⟩ w6 hm6 hM
    replace hm6 : Hp Z0 No w w6 [slR A0 c0 T_limnographref14_Thing.rep x0, ownR 54 A4 c4 T_limnographref14_Thing.rep y3] := hm6
    show Rn _ _ _ _ _ [(5, .slice A4 (y3).length c4)] _
    try dsimp only at hM
    refine Rn.seq (Rn.reg (Rn.v rfl rfl rfl rfl (V.mv rfl) (Rn.v rfl rfl rfl rfl (V.as rfl) (Rn.regEnd ?_))))
    refine Rn.retG1 Try.func13 rfl (rvT rfl) ?_
    obtain rfl := someE hM
    exact ⟨A4, c4, rfl, hm6.pick [1] rfl (by decide)⟩
  intro hk1
  clear hj1
  refine Rn.block ?_
  have hm11 := hm2.addNil 54 T_limnographref14_Thing.rep
  refine Rn.loopF (G := (List T_limnographref14_Thing) × Int × Option Addr × Nat) (fun g => [(0, .slice A0 (x0).length c0), (1, Str (x1)), (5, .slice (g.2.2.1) ((g.1)).length (g.2.2.2)), (6, .int .i64 ((g.2.1)))]) (fun g w' => Hp Z0 No w w' [slR A0 c0 T_limnographref14_Thing.rep x0, ownR 54 (g.2.2.1) (g.2.2.2) T_limnographref14_Thing.rep (g.1)]) (fun n g => m_limnographref14_Del_L1 x0 x1 j1 n g.1 g.2.1) fuel (([] : List T_limnographref14_Thing), 0, none, 0) (Sub.cons rfl (Sub.cons rfl (Sub.cons rfl (Sub.cons rfl (Sub.nil _))))) (hm11.pick [0, 1] rfl (by decide)) hM (fun _ => rfl) ?_
  clear hM
  rintro m13 ⟨y7, y10, A8, c8⟩ w13 hm13 hM hn13
  replace hm13 : Hp Z0 No w w13 [slR A0 c0 T_limnographref14_Thing.rep x0, ownR 54 A8 c8 T_limnographref14_Thing.rep y7] := hm13
  show Rn _ _ _ _ _ [(0, .slice A0 (x0).length c0), (1, Str (x1)), (5, .slice A8 (y7).length c8), (6, .int .i64 (y10))] _
  replace hM : m_limnographref14_Del_L1 x0 x1 j1 (m13 + 1) y7 y10 = some r := hM
  rw [m_limnographref14_Del_L1] at hM
  refine Rn.seq (Rn.seq (Rn.reg (Rn.v rfl rfl rfl rfl (V.mv rfl) (Rn.v rfl rfl rfl rfl (V.mv rfl) (Rn.v rfl rfl rfl rfl (V.lenV Try.underlying27 rfl) (Rn.v rfl rfl rfl rfl (V.lss rfl rfl) (Rn.regEnd ?_)))))))
  refine Rn.condD rfl (fun h14 => ?_) (fun h14 => ?_)
  · replace hM := iteT h14 hM
    refine Rn.skip (Rn.seq ?_)
    obtain ⟨j2, hj2, hM⟩ := jnE hM
    refine Rn.joinG (r := r) (G := (List T_limnographref14_Thing) × Option Addr × Nat) (fun g => [(0, .slice A0 (x0).length c0), (1, Str (x1)), (5, .slice (g.2.1) ((g.1)).length (g.2.2)), (6, .int .i64 (y10))]) (fun g w' => Hp Z0 No w w' [slR A0 c0 T_limnographref14_Thing.rep x0, ownR 54 (g.2.1) (g.2.2) T_limnographref14_Thing.rep (g.1)]) (fun g => j2 g.1) ?_ ?_
    · subst hj2
      clear hM
      rintro ⟨y15, A16, c16⟩ w18 hm18 hM
      replace hm18 : Hp Z0 No w w18 [slR A0 c0 T_limnographref14_Thing.rep x0, ownR 54 A16 c16 T_limnographref14_Thing.rep y15] := hm18
      show Rn _ _ _ _ _ [(0, .slice A0 (x0).length c0), (1, Str (x1)), (5, .slice A16 (y15).length c16), (6, .int .i64 (y10))] _
      try dsimp only at hM
      refine Rn.reg (Rn.v rfl rfl rfl rfl (V.mv rfl) (Rn.v rfl rfl rfl rfl (V.addW rfl rfl) (Rn.v rfl rfl rfl rfl (V.as rfl) (Rn.regEnd ?_))))
      exact hn13 (y15, (W64 (y10 + 1)), A16, c16) _ _ (Sub.cons rfl (Sub.cons rfl (Sub.cons rfl (Sub.cons rfl (Sub.nil _))))) (hm18.pick [0, 1] rfl (by decide)) hM
    intro hk2
    clear hj2
    refine Rn.block (Rn.seq (Rn.reg (Rn.v rfl rfl rfl rfl (V.mv rfl) (Rn.v rfl rfl rfl rfl (V.mv rfl) ?_))))
    obtain ⟨z19, e19, hM⟩ := bindE hM
    refine Rn.ixH hm13 0 rfl e19 rfl rfl rfl Try.underlying27 Try.sizeOf54 rfl rfl rfl rfl ?_
    rintro b19 o19 vs19 ⟨_, _, rfl, ⟨rfl, _⟩, ⟨rfl, _⟩⟩ hm19
    refine Rn.v rfl rfl rfl rfl (V.fa Try.underlying54 rfl Try.sizeOf9 rfl rfl) (Rn.v rfl rfl rfl rfl (V.ldR0 Try.isAgg9 rfl (hm19.get 2 rfl).2 rfl) (Rn.v rfl rfl rfl rfl (V.mv rfl) (Rn.v rfl rfl rfl rfl (V.neqS rfl rfl) (Rn.regEnd ?_))))
    refine Rn.condD rfl (fun h21 => ?_) (fun h21 => ?_)
    · replace hM := iteT h21 hM
      refine Rn.reg (Rn.v rfl rfl rfl rfl (V.mv rfl) (Rn.v rfl rfl rfl rfl (V.mv rfl) (Rn.v rfl rfl rfl rfl (V.mv rfl) ?_)))
      obtain ⟨z22, e22, hM⟩ := bindE hM
      refine Rn.ixH hm19 0 rfl e22 rfl rfl rfl Try.underlying27 Try.sizeOf54 rfl rfl rfl rfl ?_
      rintro b22 o22 vs22 ⟨_, _, rfl, ⟨rfl, _⟩, ⟨rfl, _⟩⟩ hm22
      refine Rn.v rfl rfl rfl rfl (V.ldA Try.isAgg54 Try.sizeOf54 rfl (Rd.pre (hm22.get 3 rfl).2 2) rfl) ?_
      obtain ⟨z24, e24, hM⟩ := bindE hM
      refine Rn.pushH (z := z22) (vs := [Str (z22.Key), .int .i64 (z22.V)]) hm22 1 rfl e24 rfl rfl rfl rfl Try.underlying27 el54 rfl rfl rfl rfl (fun _ => rfl) (⟨_, _, rfl, ⟨rfl, trivial⟩, ⟨rfl, trivial⟩⟩) ?_
      intro A24 c24 w24 u24 hm24
      refine Rn.v rfl rfl rfl rfl (V.as rfl) (Rn.regEnd (Rn.inBlock ?_))
      exact hk2 (z24, A24, c24) _ _ (Sub.cons rfl (Sub.cons rfl (Sub.cons rfl (Sub.cons rfl (Sub.nil _))))) (hm24.pick [0, 1] rfl (by decide)) hM
    · replace hM := iteF h21 hM
      refine Rn.skip (Rn.inBlock ?_)
      exact hk2 (y7, A8, c8) _ _ (Sub.cons rfl (Sub.cons rfl (Sub.cons rfl (Sub.cons rfl (Sub.nil _))))) (hm19.pick [0, 1] rfl (by decide)) hM
  · replace hM := iteF h14 hM
    refine Rn.exit rfl ?_
    exact hk1 (y7, A8, c8) _ _ (Sub.cons rfl (Sub.nil _)) (hm13.pick [0, 1] rfl (by decide)) hM

set_option maxRecDepth 20000 in
theorem m_limnographref14_Put_sim {Z0 : Nat → Prop} (w : World) (A0 : Option Addr) (c0 : Nat) (x0 : (List T_limnographref14_Thing)) (x1 : Int) (x2 : (List UInt8)) (x3 : Int) {r : ((List T_limnographref14_Thing) × Bool)} (f0 : (slR A0 c0 T_limnographref14_Thing.rep x0).H Z0 w) (hM : m_limnographref14_Put x0 x1 x2 x3 = some r) :
    Calls Try.prog 10 #[.slice A0 (x0).length c0, .int .i64 (x1), Str (x2), .int .i64 (x3)] w fun x w' => ∃ A_0_0 c_0_0, x = .returned (.tuple #[.slice A_0_0 (r.1).length c_0_0, .bool (r.2)]) ∧ Hp Z0 No w w' [slR A_0_0 c_0_0 T_limnographref14_Thing.rep r.1] := by
  have hm0 := Hp.nil Z0 No w
  have hc0 := Calm.nil
  have hm2 := hm0.know (slR A0 c0 T_limnographref14_Thing.rep x0) (fun _ h => h) (hm0.in0 hc0 f0)
  replace hc0 := hc0.snoc (r := slR A0 c0 T_limnographref14_Thing.rep x0) (fun _ h => h)
  refine Rn.enter Try.func10 rfl rfl (Nat.le_of_ble_eq_true rfl) ?_
  refine Rn.seq (Rn.reg (Rn.v rfl rfl rfl rfl (V.as rfl) (Rn.v rfl rfl rfl rfl (V.as rfl) (Rn.regEnd (Rn.seq (Rn.seq (Rn.reg (Rn.v rfl rfl rfl rfl (V.mv rfl) (Rn.v rfl rfl rfl rfl (V.mv rfl) ?_)))))))))
  obtain ⟨p3, e3, hM⟩ := bindE hM
  refine Rn.cl ck19 rfl rfl rfl rfl (m_limnographref14_find_sim (Z0 := All) _ A0 c0 x0 x2 (slR_all (hm2.get 0 rfl)) e3) ?_
  rintro _ w3 ⟨rfl, hq3⟩
  refine ⟨_, rfl, ?_⟩
  have hm4 := hm2.call0 hq3
  refine Rn.v rfl rfl rfl rfl (V.lss rfl rfl) (Rn.v rfl rfl rfl rfl (V.mv rfl) ?_)
  refine Rn.cutR [] [(0, .slice A0 (x0).length c0), (2, Str (x2)), (3, .int .i64 (x3)), (19, .bool (decide ((p3 < 0) ∧ ((x0.length : Int) ≥ x1))))] (fun hk5 => ?_) ?_
  · refine Rn.partD (t := 14) rfl (fun h6 => ?_) (fun h6 => ?_)
    · refine Rn.v rfl rfl rfl rfl (V.mv rfl) (Rn.v rfl rfl rfl rfl (V.lenV Try.underlying27 rfl) (Rn.v rfl rfl rfl rfl (V.mv rfl) (Rn.v rfl rfl rfl rfl (V.geq rfl rfl) (Rn.v rfl rfl rfl rfl (V.pkT rfl rfl) ?_))))
      refine hk5 _ ?_
      exact Sub.cons rfl (Sub.cons rfl (Sub.cons rfl (Sub.cons (lkv _ rfl (by first | exact andT h6 | exact andF h6 | exact orT h6 | exact orF h6 | exact nandF h6 | exact nandT h6 | exact norT h6 | exact norF h6 | (simp [h6]; done) | grind)) (Sub.nil _))))
    · refine Rn.no rfl rfl rfl rfl (Rn.no rfl rfl rfl rfl (Rn.no rfl rfl rfl rfl (Rn.no rfl rfl rfl rfl (Rn.v rfl rfl rfl rfl (V.pkF rfl rfl) ?_))))
      refine hk5 _ ?_
      exact Sub.cons rfl (Sub.cons rfl (Sub.cons rfl (Sub.cons (lkv _ rfl (by first | exact andT h6 | exact andF h6 | exact orT h6 | exact orF h6 | exact nandF h6 | exact nandT h6 | exact norT h6 | exact norF h6 | (simp [h6]; done) | grind)) (Sub.nil _))))
  refine Rn.regEnd ?_
  refine Rn.condD rfl (fun h7 => ?_) (fun h7 => ?_)
  · replace hM := iteT h7 hM
    refine Rn.seq (Rn.reg (Rn.v rfl rfl rfl rfl (V.mv rfl) (Rn.v rfl rfl rfl rfl (V.as rfl) (Rn.v rfl rfl rfl rfl (V.as rfl) (Rn.regEnd ?_)))))
    refine Rn.retG2 Try.func10 rfl (rvT rfl) (rvT rfl) ?_
    obtain rfl := someE hM
    exact ⟨A0, c0, rfl, hm4.pick [0] rfl (by decide)⟩
  · replace hM := iteF h7 hM
    refine Rn.skip (Rn.seq (Rn.reg (Rn.v rfl rfl rfl rfl (V.mv rfl) (Rn.v rfl rfl rfl rfl (V.mv rfl) ?_))))
    obtain ⟨p8, e8, hM⟩ := bindE hM
    refine Rn.cl ck13 rfl rfl rfl rfl (m_limnographref14_Del_sim (Z0 := All) _ A0 c0 x0 x2 (slR_all (hm4.get 0 rfl)) e8) ?_
    rintro _ w8 ⟨A8_0_0, c8_0_0, rfl, hq8⟩
    refine ⟨_, rfl, ?_⟩
    have hm10 : Hp Z0 No w w8 [slR A0 c0 T_limnographref14_Thing.rep x0, ownR 54 A8_0_0 c8_0_0 T_limnographref14_Thing.rep p8] := hm4.callF (flC (ownR_flat T_limnographref14_Thing.flat _ _ _ _) fl0) hq8
    refine Rn.v rfl rfl rfl rfl (V.mv rfl) (Rn.v rfl rfl rfl rfl (V.mv rfl) (Rn.v rfl rfl rfl rfl (V.bldS st54 rfl rfl) ?_))
    obtain ⟨z11, e11, hM⟩ := bindE hM
    refine Rn.pushH (z := ({ Key := x2, V := x3 } : T_limnographref14_Thing)) (vs := [Str (x2), .int .i64 (x3)]) hm10 1 rfl e11 rfl rfl rfl rfl Try.underlying27 el54 rfl rfl rfl rfl (fun _ => rfl) (⟨_, _, rfl, ⟨rfl, trivial⟩, ⟨rfl, trivial⟩⟩) ?_
    intro A11 c11 w11 u11 hm11
    refine Rn.v rfl rfl rfl rfl (V.as rfl) (Rn.v rfl rfl rfl rfl (V.as rfl) (Rn.regEnd ?_))
    have hm14 := hm11.freeze 1 rfl
    refine Rn.retG2 Try.func10 rfl (rvT rfl) (rvT rfl) ?_
    obtain rfl := someE hM
    exact ⟨A11, c11, rfl, hm14.pick [1] rfl (by decide)⟩

set_option maxRecDepth 20000 in
theorem m_table_Table_int_Del_sim {Z0 : Nat → Prop} (w : World) (F0 : Nat → Prop) (b0 : Nat) (x0 : T_table_Table_int_) (x1 : (List UInt8)) {r : (Bool × T_table_Table_int_)} (hL : Lent Z0 w [T_table_Table_int_.obj F0 b0 x0]) (hM : m_table_Table_int_Del x0 x1 = some r) :
    Calls Try.prog 12 #[.pointer (some ⟨b0, 0, none⟩), Str (x1)] w fun x w' => ∃ F_p0, x = .returned (.bool (r.1)) ∧ Hp Z0 (LS [T_table_Table_int_.obj F0 b0 x0]) w w' [T_table_Table_int_.obj F_p0 b0 r.2] := by
  have hm0 := hL.start
  refine Rn.enter Try.func12 rfl rfl (Nat.le_of_ble_eq_true rfl) ?_
  refine Rn.seq (Rn.reg (Rn.v rfl rfl rfl rfl (V.as rfl) (Rn.regEnd (Rn.seq (Rn.reg (Rn.v rfl rfl rfl rfl (V.mv rfl) (Rn.v rfl rfl rfl rfl (V.nil rfl) (Rn.v rfl rfl rfl rfl (V.fa Try.underlying48 rfl Try.sizeOf46 rfl rfl) ?_))))))))
  obtain ⟨_, ⟨m2_0, rfl⟩, hm2⟩ := hm0.unf 0 rfl
  replace hm2 : Hp Z0 (LS [T_table_Table_int_.obj F0 b0 x0]) w w [boxR b0 48 [.int .i64 (x0.most), .int .i64 (x0.clock), .map (some m2_0)], mapR m2_0 vA T_table_slot_int_.rep x0.m] := hm2
  refine Rn.v rfl rfl rfl rfl (V.ldB Try.isAgg46 rfl (hm2.get 0 rfl) rfl) (Rn.v rfl rfl rfl rfl (V.mv rfl) ?_)
  obtain ⟨vs4, hl4, hr4⟩ := Map.lkp (hm2.get 1 rfl) x1 (zs := [.int .i64 (0), .int .i64 (0)]) (zm := (({ v := 0, when := 0 } : T_table_slot_int_) : T_table_slot_int_)) (show T_table_slot_int_.rep.rel _ _ _ _ from ⟨_, _, rfl, ⟨rfl, trivial⟩, ⟨rfl, trivial⟩⟩)
  obtain ⟨_, _, rfl, ⟨rfl, _⟩, ⟨rfl, _⟩⟩ := hr4
  refine Rn.v rfl rfl rfl rfl (V.lkpHO hl4 Try.underlying46 Try.underlying9 Try.zeroValue50 rfl rfl) (Rn.v rfl rfl rfl rfl (V.mv rfl) (Rn.v rfl rfl rfl rfl (V.ext rfl rfl) (Rn.v rfl rfl rfl rfl (V.ext rfl rfl) (Rn.als rfl rfl rfl Try.zeroValue50 rfl Try.sizeOf50 rfl rfl rfl rfl (by first | exact ones rfl | (simp [Value.oneCell']; done)) ?_))))
  intro b5 w5 hb5 m5 e5
  have hm7 : Hp Z0 (LS [T_table_Table_int_.obj F0 b0 x0]) w w5 [boxR b0 48 [.int .i64 (x0.most), .int .i64 (x0.clock), .map (some m2_0)], mapR m2_0 vA T_table_slot_int_.rep x0.m, boxR b5 50 [.int .i64 (((lookP x1 x0.m).getD ({ v := 0, when := 0 } : T_table_slot_int_)).v), .int .i64 (((lookP x1 x0.m).getD ({ v := 0, when := 0 } : T_table_slot_int_)).when)]] := hm2.addBox hb5 e5 m5
  refine Rn.v rfl rfl rfl rfl (V.as rfl) (Rn.regEnd (Rn.seq (Rn.reg (Rn.v rfl rfl rfl rfl (V.mv rfl) (Rn.v rfl rfl rfl rfl (V.nil rfl) (Rn.v rfl rfl rfl rfl (V.fa Try.underlying48 rfl Try.sizeOf46 rfl rfl) (Rn.v rfl rfl rfl rfl (V.ldB Try.isAgg46 rfl (hm7.get 0 rfl) rfl) (Rn.v rfl rfl rfl rfl (V.mv rfl) (Rn.delH hm7 1 rfl rfl rfl rfl Try.underlying46 Try.underlying9 rfl rfl ?_)))))))))
  intro w8 hm8
  refine Rn.regEnd (Rn.seq (Rn.reg (Rn.v rfl rfl rfl rfl (V.mv rfl) (Rn.v rfl rfl rfl rfl (V.as rfl) (Rn.regEnd ?_)))))
  have hm10 : Hp Z0 (LS [T_table_Table_int_.obj F0 b0 x0]) w w8 ([boxR b5 50 [.int .i64 (((lookP x1 x0.m).getD ({ v := 0, when := 0 } : T_table_slot_int_)).v), .int .i64 (((lookP x1 x0.m).getD ({ v := 0, when := 0 } : T_table_slot_int_)).when)]] ++ [boxR b0 48 [.int .i64 (x0.most), .int .i64 (x0.clock), .map (some m2_0)], mapR m2_0 vA T_table_slot_int_.rep (delP x1 x0.m)]) := hm8.pick [2, 0, 1] rfl (by decide)
  obtain ⟨F9, hm9⟩ := hm10.fold (T_table_Table_int_.sh b0 ({ most := x0.most, clock := x0.clock, m := (delP x1 x0.m) } : T_table_Table_int_)) ⟨m2_0, rfl⟩
  replace hm9 : Hp Z0 (LS [T_table_Table_int_.obj F0 b0 x0]) w w8 [boxR b5 50 [.int .i64 (((lookP x1 x0.m).getD ({ v := 0, when := 0 } : T_table_slot_int_)).v), .int .i64 (((lookP x1 x0.m).getD ({ v := 0, when := 0 } : T_table_slot_int_)).when)], T_table_Table_int_.obj F9 b0 ({ most := x0.most, clock := x0.clock, m := (delP x1 x0.m) } : T_table_Table_int_)] := hm9
  refine Rn.retG1 Try.func12 rfl (rvT rfl) ?_
  obtain rfl := someE hM
  exact ⟨F9, rfl, hm9.pick [1] rfl (by decide)⟩

set_option maxRecDepth 20000 in
theorem m_table_Table_int_Clone_sim {Z0 : Nat → Prop} (w : World) (F0 : Nat → Prop) (b0 : Nat) (x0 : T_table_Table_int_) {r : T_table_Table_int_} (hL : Lent Z0 w [T_table_Table_int_.obj F0 b0 x0]) (hM : m_table_Table_int_Clone x0 = some r) :
    Calls Try.prog 14 #[.pointer (some ⟨b0, 0, none⟩)] w fun x w' => ∃ F_0 b_0 F_p0, x = .returned (.pointer (some ⟨b_0, 0, none⟩)) ∧ Hp Z0 (LS [T_table_Table_int_.obj F0 b0 x0]) w w' [T_table_Table_int_.obj F_0 b_0 r, T_table_Table_int_.obj F_p0 b0 x0] := by
  have hm0 := hL.start
  refine Rn.enter Try.func14 rfl rfl (Nat.le_of_ble_eq_true rfl) ?_
  refine Rn.seq (Rn.reg (Rn.v rfl rfl rfl rfl (V.as rfl) (Rn.regEnd (Rn.seq ?_))))
  refine Rn.drawH rfl hm0 ?_
  intro w2 hm2
  refine RH.take 0 (by kernel_rfl) rfl rfl rfl rfl (fun w' hDr => V.mv rfl) ?_
  refine RH.take 1 (by kernel_rfl) rfl rfl rfl rfl (fun w' hDr => V.nil rfl) ?_
  refine RH.take 2 (by kernel_rfl) rfl rfl rfl rfl (fun w' hDr => V.fa Try.underlying48 rfl Try.sizeOf3 rfl rfl) ?_
  obtain ⟨_, ⟨m3_0, rfl⟩, hm3⟩ := hm2.unf 0 rfl
  replace hm3 : Hp Z0 (LS [T_table_Table_int_.obj F0 b0 x0]) w w2 [boxR b0 48 [.int .i64 (x0.most), .int .i64 (x0.clock), .map (some m3_0)], mapR m3_0 vA T_table_slot_int_.rep x0.m] := hm3
  refine RH.take 3 (by kernel_rfl) rfl rfl rfl rfl (fun w' hDr => V.ldB Try.isAgg3 rfl ((hm3.ext hDr).get 0 rfl) rfl) ?_
  refine RH.take 4 (by kernel_rfl) rfl rfl rfl rfl (fun w' hDr => V.mv rfl) ?_
  refine RH.take 5 (by kernel_rfl) rfl rfl rfl rfl (fun w' hDr => V.nil rfl) ?_
  refine RH.take 6 (by kernel_rfl) rfl rfl rfl rfl (fun w' hDr => V.fa Try.underlying48 rfl Try.sizeOf3 rfl rfl) ?_
  refine RH.take 7 (by kernel_rfl) rfl rfl rfl rfl (fun w' hDr => V.ldB Try.isAgg3 rfl ((hm3.ext hDr).get 0 rfl) rfl) ?_
  refine RH.here fun hS8 => RH.one 8 (by kernel_rfl) rfl rfl rfl rfl (V.mv rfl) hS8 ?_
  refine RH.here fun hS9 => RH.one 9 (by kernel_rfl) rfl rfl rfl rfl (V.nil rfl) hS9 ?_
  refine RH.here fun hS10 => RH.one 10 (by kernel_rfl) rfl rfl rfl rfl (V.fa Try.underlying48 rfl Try.sizeOf46 rfl rfl) hS10 ?_
  refine RH.here fun hS11 => RH.one 11 (by kernel_rfl) rfl rfl rfl rfl (V.ldB Try.isAgg46 rfl (hm3.get 0 rfl) rfl) hS11 ?_
  refine RH.cl ck21 12 (by kernel_rfl) rfl rfl rfl rfl (mclone_21 (Z0 := All) _ _ _ (map_all (hm3.get 1 rfl))) ?_
  rintro _ w5 ⟨b5_0, rfl, hq5⟩
  refine ⟨_, rfl, ((Ext.refl _).trans hq5.fr), ?_⟩
  have hm7 : Hp Z0 (LS [T_table_Table_int_.obj F0 b0 x0]) w w5 [boxR b0 48 [.int .i64 (x0.most), .int .i64 (x0.clock), .map (some m3_0)], mapR m3_0 vA T_table_slot_int_.rep x0.m, mapR b5_0 vA T_table_slot_int_.rep x0.m] := hm3.callF (flC (mapR_flat T_table_slot_int_.flat) fl0) hq5
  refine RH.here fun hS13 => RH.one 13 (by kernel_rfl) rfl rfl rfl rfl (V.bldS st48 rfl rfl) hS13 ?_
  refine RH.box 14 (by kernel_rfl) rfl rfl rfl rfl rfl ?_
  intro b8 w8 hb8 m8 e8
  have hfr8 : w2.heap.size ≤ b8 := by have hh := (((Ext.refl _).trans hq5.fr) : Ext w2 w5).size; omega
  have hm10 : Hp Z0 (LS [T_table_Table_int_.obj F0 b0 x0]) w w8 [boxR b0 48 [.int .i64 (x0.most), .int .i64 (x0.clock), .map (some m3_0)], mapR m3_0 vA T_table_slot_int_.rep x0.m, mapR b5_0 vA T_table_slot_int_.rep x0.m, boxR b8 48 [.int .i64 (x0.most), .int .i64 (x0.clock), .map (some b5_0)]] := hm7.addBox hb8 e8 m8
  refine ⟨(((Ext.refl _).trans hq5.fr).trans e8), ?_⟩
  refine RH.here fun hS15 => RH.one 15 (by kernel_rfl) rfl rfl rfl rfl (V.as rfl) hS15 ?_
  refine RH.doneP (by kernel_rfl) ?_
  have hm12 : Hp Z0 (LS [T_table_Table_int_.obj F0 b0 x0]) w w8 ([boxR b0 48 [.int .i64 (x0.most), .int .i64 (x0.clock), .map (some m3_0)], mapR m3_0 vA T_table_slot_int_.rep x0.m] ++ [boxR b8 48 [.int .i64 (x0.most), .int .i64 (x0.clock), .map (some b5_0)], mapR b5_0 vA T_table_slot_int_.rep x0.m]) := hm10.pick [0, 1, 3, 2] rfl (by decide)
  obtain ⟨F11, hm11⟩ := hm12.fold (T_table_Table_int_.sh b8 ({ most := x0.most, clock := x0.clock, m := x0.m } : T_table_Table_int_)) ⟨b5_0, rfl⟩
  replace hm11 : Hp Z0 (LS [T_table_Table_int_.obj F0 b0 x0]) w w8 [boxR b0 48 [.int .i64 (x0.most), .int .i64 (x0.clock), .map (some m3_0)], mapR m3_0 vA T_table_slot_int_.rep x0.m, T_table_Table_int_.obj F11 b8 ({ most := x0.most, clock := x0.clock, m := x0.m } : T_table_Table_int_)] := hm11
  have hm14 : Hp Z0 (LS [T_table_Table_int_.obj F0 b0 x0]) w w8 ([T_table_Table_int_.obj F11 b8 ({ most := x0.most, clock := x0.clock, m := x0.m } : T_table_Table_int_)] ++ [boxR b0 48 [.int .i64 (x0.most), .int .i64 (x0.clock), .map (some m3_0)], mapR m3_0 vA T_table_slot_int_.rep x0.m]) := hm11.pick [2, 0, 1] rfl (by decide)
  obtain ⟨F13, hm13⟩ := hm14.fold (T_table_Table_int_.sh b0 x0) ⟨m3_0, rfl⟩
  replace hm13 : Hp Z0 (LS [T_table_Table_int_.obj F0 b0 x0]) w w8 [T_table_Table_int_.obj F11 b8 ({ most := x0.most, clock := x0.clock, m := x0.m } : T_table_Table_int_), T_table_Table_int_.obj F13 b0 x0] := hm13
  refine Rn.retG1 Try.func14 rfl (rvT rfl) ?_
  obtain rfl := someE hM
  exact ⟨F11, b8, F13, rfl, hm13.pick [0, 1] rfl (by decide)⟩

set_option maxRecDepth 20000 in
theorem m_limnographref14_Sorted_sim {Z0 : Nat → Prop} (w : World) (A0 : Option Addr) (c0 : Nat) (x0 : (List T_limnographref14_Thing)) {r : (List T_limnographref14_Thing)} (f0 : (slR A0 c0 T_limnographref14_Thing.rep x0).H Z0 w) (hM : m_limnographref14_Sorted x0 = some r) :
    Calls Try.prog 22 #[.slice A0 (x0).length c0] w fun x w' => ∃ A_0_0 c_0_0, x = .returned (.slice A_0_0 (r).length c_0_0) ∧ Hp Z0 No w w' [ownR 54 A_0_0 c_0_0 T_limnographref14_Thing.rep r] := by
  have hm0 := Hp.nil Z0 No w
  have hc0 := Calm.nil
  have hm2 := hm0.know (slR A0 c0 T_limnographref14_Thing.rep x0) (fun _ h => h) (hm0.in0 hc0 f0)
  replace hc0 := hc0.snoc (r := slR A0 c0 T_limnographref14_Thing.rep x0) (fun _ h => h)
  refine Rn.enter Try.func22 rfl rfl (Nat.le_of_ble_eq_true rfl) ?_
  refine Rn.seq (Rn.reg (Rn.v rfl rfl rfl rfl (V.as rfl) (Rn.regEnd (Rn.seq (Rn.reg (Rn.v rfl rfl rfl rfl (V.as rfl) (Rn.regEnd (Rn.seq (Rn.seq (Rn.reg (Rn.v rfl rfl rfl rfl (V.as rfl) (Rn.regEnd ?_))))))))))))
  obtain ⟨j1, hj1, hM⟩ := jnE hM
  refine Rn.joinG (r := r) (G := (List T_limnographref14_Thing) × Option Addr × Nat) (fun g => [(3, .slice (g.2.1) ((g.1)).length (g.2.2))]) (fun g w' => Hp Z0 No w w' [slR A0 c0 T_limnographref14_Thing.rep x0, ownR 54 (g.2.1) (g.2.2) T_limnographref14_Thing.rep (g.1)]) (fun g => j1 g.1) ?_ ?_
  · subst hj1
    clear hM
    rintro ⟨y3, A4, c4⟩ w6 hm6 hM
    replace hm6 : Hp Z0 No w w6 [slR A0 c0 T_limnographref14_Thing.rep x0, ownR 54 A4 c4 T_limnographref14_Thing.rep y3] := hm6
    show Rn _ _ _ _ _ [(3, .slice A4 (y3).length c4)] _
    try dsimp only at hM
    refine Rn.seq (Rn.reg (Rn.v rfl rfl rfl rfl (V.mv rfl) (Rn.v rfl rfl rfl rfl (V.as rfl) (Rn.regEnd ?_))))
    refine Rn.retG1 Try.func22 rfl (rvT rfl) ?_
    obtain rfl := someE hM
    exact ⟨A4, c4, rfl, hm6.pick [1] rfl (by decide)⟩
  intro hk1
  clear hj1
  refine Rn.block ?_
  have hm11 := hm2.addNil 54 T_limnographref14_Thing.rep
  refine Rn.loopF (G := (List T_limnographref14_Thing) × Int × Option Addr × Nat) (fun g => [(0, .slice A0 (x0).length c0), (3, .slice (g.2.2.1) ((g.1)).length (g.2.2.2)), (4, .int .i64 ((g.2.1)))]) (fun g w' => Hp Z0 No w w' [slR A0 c0 T_limnographref14_Thing.rep x0, ownR 54 (g.2.2.1) (g.2.2.2) T_limnographref14_Thing.rep (g.1)]) (fun n g => m_limnographref14_Sorted_L1 x0 j1 n g.1 g.2.1) fuel (([] : List T_limnographref14_Thing), 0, none, 0) (Sub.cons rfl (Sub.cons rfl (Sub.cons rfl (Sub.nil _)))) (hm11.pick [0, 1] rfl (by decide)) hM (fun _ => rfl) ?_
  clear hM
  rintro m13 ⟨y7, y10, A8, c8⟩ w13 hm13 hM hn13
  replace hm13 : Hp Z0 No w w13 [slR A0 c0 T_limnographref14_Thing.rep x0, ownR 54 A8 c8 T_limnographref14_Thing.rep y7] := hm13
  show Rn _ _ _ _ _ [(0, .slice A0 (x0).length c0), (3, .slice A8 (y7).length c8), (4, .int .i64 (y10))] _
  replace hM : m_limnographref14_Sorted_L1 x0 j1 (m13 + 1) y7 y10 = some r := hM
  rw [m_limnographref14_Sorted_L1] at hM
  refine Rn.seq (Rn.seq (Rn.reg (Rn.v rfl rfl rfl rfl (V.mv rfl) (Rn.v rfl rfl rfl rfl (V.mv rfl) (Rn.v rfl rfl rfl rfl (V.lenV Try.underlying27 rfl) (Rn.v rfl rfl rfl rfl (V.lss rfl rfl) (Rn.regEnd ?_)))))))
  refine Rn.condD rfl (fun h14 => ?_) (fun h14 => ?_)
  · replace hM := iteT h14 hM
    refine Rn.skip (Rn.seq (Rn.block (Rn.seq (Rn.reg (Rn.v rfl rfl rfl rfl (V.mv rfl) (Rn.v rfl rfl rfl rfl (V.lenV Try.underlying27 rfl) (Rn.v rfl rfl rfl rfl (V.as rfl) (Rn.regEnd (Rn.seq ?_)))))))))
    obtain ⟨j2, hj2, hM⟩ := jnE hM
    refine Rn.joinG (r := r) (G := Int) (fun g => [(0, .slice A0 (x0).length c0), (3, .slice A8 (y7).length c8), (4, .int .i64 (y10)), (5, .int .i64 (g))]) (fun g w' => Hp Z0 No w w' [slR A0 c0 T_limnographref14_Thing.rep x0, ownR 54 A8 c8 T_limnographref14_Thing.rep y7]) (fun g => j2 g) ?_ ?_
    · subst hj2
      clear hM
      rintro y15 w16 hm16 hM
      replace hm16 : Hp Z0 No w w16 [slR A0 c0 T_limnographref14_Thing.rep x0, ownR 54 A8 c8 T_limnographref14_Thing.rep y7] := hm16
      show Rn _ _ _ _ _ [(0, .slice A0 (x0).length c0), (3, .slice A8 (y7).length c8), (4, .int .i64 (y10)), (5, .int .i64 (y15))] _
      try dsimp only at hM
      refine Rn.seq (Rn.reg (Rn.v rfl rfl rfl rfl (V.as rfl) (Rn.regEnd (Rn.seq (Rn.reg (Rn.v rfl rfl rfl rfl (V.mv rfl) (Rn.v rfl rfl rfl rfl (V.mv rfl) (Rn.v rfl rfl rfl rfl (V.mv rfl) ?_))))))))
      have hm19 := hm16.freeze 1 rfl
      obtain ⟨z17, e17, hM⟩ := bindE hM
      refine Rn.cutH hm19 1 rfl e17 rfl rfl rfl Try.underlying27 Try.sizeOf54 rfl rfl rfl rfl rfl ?_
      intro A17 c17 hm17
      have hm22 := hm17.addNil 54 T_limnographref14_Thing.rep
      obtain ⟨z21, e21, hM⟩ := bindE hM
      refine Rn.appH hm22 3 rfl e21 rfl rfl rfl Try.underlying27 el54 rfl rfl rfl rfl (hm22.src 2 rfl) ?_
      intro A21 c21 w21 hm21
      refine Rn.v rfl rfl rfl rfl (V.as rfl) (Rn.regEnd (Rn.seq (Rn.reg (Rn.v rfl rfl rfl rfl (V.mv rfl) (Rn.v rfl rfl rfl rfl (V.mv rfl) (Rn.v rfl rfl rfl rfl (V.mv rfl) ?_))))))
      obtain ⟨z25, e25, hM⟩ := bindE hM
      refine Rn.ixH hm21 0 rfl e25 rfl rfl rfl Try.underlying27 Try.sizeOf54 rfl rfl rfl rfl ?_
      rintro b25 o25 vs25 ⟨_, _, rfl, ⟨rfl, _⟩, ⟨rfl, _⟩⟩ hm25
      refine Rn.v rfl rfl rfl rfl (V.ldA Try.isAgg54 Try.sizeOf54 rfl (Rd.pre (hm25.get 4 rfl).2 2) rfl) ?_
      obtain ⟨z27, e27, hM⟩ := bindE hM
      refine Rn.pushH (z := z25) (vs := [Str (z25.Key), .int .i64 (z25.V)]) hm25 3 rfl e27 rfl rfl rfl rfl Try.underlying27 el54 rfl rfl rfl rfl (fun _ => rfl) (⟨_, _, rfl, ⟨rfl, trivial⟩, ⟨rfl, trivial⟩⟩) ?_
      intro A27 c27 w27 u27 hm27
      refine Rn.v rfl rfl rfl rfl (V.as rfl) (Rn.regEnd (Rn.reg (Rn.v rfl rfl rfl rfl (V.mv rfl) (Rn.v rfl rfl rfl rfl (V.mv rfl) (Rn.v rfl rfl rfl rfl (V.mv rfl) ?_)))))
      obtain ⟨z29, e29, hM⟩ := bindE hM
      refine Rn.cutH hm27 1 rfl e29 rfl rfl rfl Try.underlying27 Try.sizeOf54 rfl rfl rfl rfl rfl ?_
      intro A29 c29 hm29
      obtain ⟨z31, e31, hM⟩ := bindE hM
      refine Rn.appH hm29 3 rfl e31 rfl rfl rfl Try.underlying27 el54 rfl rfl rfl rfl (hm29.src 5 rfl) ?_
      intro A31 c31 w31 hm31
      refine Rn.v rfl rfl rfl rfl (V.as rfl) (Rn.regEnd (Rn.inBlock (Rn.reg (Rn.v rfl rfl rfl rfl (V.mv rfl) (Rn.v rfl rfl rfl rfl (V.addW rfl rfl) (Rn.v rfl rfl rfl rfl (V.as rfl) (Rn.regEnd ?_)))))))
      exact hn13 (z31, (W64 (y10 + 1)), A31, c31) _ _ (Sub.cons rfl (Sub.cons rfl (Sub.cons rfl (Sub.nil _)))) (hm31.pick [0, 3] rfl (by decide)) hM
    intro hk2
    clear hj2
    refine Rn.block ?_
    refine Rn.loopF (G := Int) (fun g => [(0, .slice A0 (x0).length c0), (3, .slice A8 (y7).length c8), (4, .int .i64 (y10)), (5, .int .i64 (g))]) (fun g w' => Hp Z0 No w w' [slR A0 c0 T_limnographref14_Thing.rep x0, ownR 54 A8 c8 T_limnographref14_Thing.rep y7]) (fun n g => m_limnographref14_Sorted_L2 x0 y7 y10 j2 n g) fuel (y7.length : Int) (Sub.cons rfl (Sub.cons rfl (Sub.cons rfl (Sub.cons rfl (Sub.nil _))))) (hm13.pick [0, 1] rfl (by decide)) hM (fun _ => rfl) ?_
    clear hM
    rintro m34 y33 w34 hm34 hM hn34
    replace hm34 : Hp Z0 No w w34 [slR A0 c0 T_limnographref14_Thing.rep x0, ownR 54 A8 c8 T_limnographref14_Thing.rep y7] := hm34
    show Rn _ _ _ _ _ [(0, .slice A0 (x0).length c0), (3, .slice A8 (y7).length c8), (4, .int .i64 (y10)), (5, .int .i64 (y33))] _
    replace hM : m_limnographref14_Sorted_L2 x0 y7 y10 j2 (m34 + 1) y33 = some r := hM
    rw [m_limnographref14_Sorted_L2] at hM
    refine Rn.seq (Rn.seq ?_)
    obtain ⟨j3, hj3, hM⟩ := jnE hM
    refine Rn.joinG (r := r) (G := Bool) (fun g => [(0, .slice A0 (x0).length c0), (3, .slice A8 (y7).length c8), (4, .int .i64 (y10)), (5, .int .i64 (y33)), (30, .bool (g))]) (fun g w' => Hp Z0 No w w' [slR A0 c0 T_limnographref14_Thing.rep x0, ownR 54 A8 c8 T_limnographref14_Thing.rep y7]) (fun g => j3 g) ?_ ?_
    · subst hj3
      clear hM
      rintro y35 w36 hm36 hM
      replace hm36 : Hp Z0 No w w36 [slR A0 c0 T_limnographref14_Thing.rep x0, ownR 54 A8 c8 T_limnographref14_Thing.rep y7] := hm36
      show Rn _ _ _ _ _ [(0, .slice A0 (x0).length c0), (3, .slice A8 (y7).length c8), (4, .int .i64 (y10)), (5, .int .i64 (y33)), (30, .bool (y35))] _
      try dsimp only at hM
      refine Rn.condS rfl (fun h37 => ?_) (fun h37 => ?_)
      · replace hM := iteT h37 hM
        refine Rn.skip (Rn.block (Rn.reg (Rn.v rfl rfl rfl rfl (V.mv rfl) (Rn.v rfl rfl rfl rfl (V.subW rfl rfl) (Rn.v rfl rfl rfl rfl (V.as rfl) (Rn.regEnd (Rn.inBlock ?_)))))))
        exact hn34 (W64 (y33 - 1)) _ _ (Sub.cons rfl (Sub.cons rfl (Sub.cons rfl (Sub.cons rfl (Sub.nil _))))) (hm36.pick [0, 1] rfl (by decide)) hM
      · replace hM := iteF (by rw [h37]; exact Bool.false_ne_true) hM
        refine Rn.exit rfl ?_
        exact hk2 y33 _ _ (Sub.cons rfl (Sub.cons rfl (Sub.cons rfl (Sub.cons rfl (Sub.nil _))))) (hm36.pick [0, 1] rfl (by decide)) hM
    intro hk3
    clear hj3
    refine Rn.drawP rfl hm34 ?_
    intro w38 hm38
    refine RH.takeP 0 (by kernel_rfl) rfl rfl rfl rfl (V.mv rfl) ?_
    refine RH.takeP 1 (by kernel_rfl) rfl rfl rfl rfl (V.gtr rfl rfl) ?_
    refine RH.takeP 2 (by kernel_rfl) rfl rfl rfl rfl (V.mv rfl) ?_
    refine RH.partD (t := 17) rfl (fun h39 => ?_) (fun h39 => ?_)
    · replace hM := iteT h39 hM
      refine RH.takeP 3 (by kernel_rfl) rfl rfl rfl rfl (V.mv rfl) ?_
      refine RH.takeP 4 (by kernel_rfl) rfl rfl rfl rfl (V.mv rfl) ?_
      refine RH.takeP 5 (by kernel_rfl) rfl rfl rfl rfl (V.subW rfl rfl) ?_
      obtain ⟨z40, e40, hM⟩ := bindE hM
      obtain ⟨kk40, ke40, kz40, kl40⟩ := idxE e40
      obtain ⟨g40, vs40, hA40, hR40, hrel40⟩ := hm38.ownAt 1 rfl kz40
      subst hA40
      obtain ⟨_, _, rfl, ⟨rfl, _⟩, ⟨rfl, _⟩⟩ := hrel40
      refine RH.takeP 6 (by kernel_rfl) rfl rfl rfl rfl (V.ixE kk40 Try.underlying27 Try.sizeOf54 rfl rfl ke40 kl40) ?_
      refine RH.takeP 7 (by kernel_rfl) rfl rfl rfl rfl (V.fa Try.underlying54 rfl Try.sizeOf9 rfl rfl) ?_
      refine RH.takeP 8 (by kernel_rfl) rfl rfl rfl rfl (V.ldR0 Try.isAgg9 rfl hR40 rfl) ?_
      refine RH.takeP 9 (by kernel_rfl) rfl rfl rfl rfl (V.mv rfl) ?_
      refine RH.takeP 10 (by kernel_rfl) rfl rfl rfl rfl (V.mv rfl) ?_
      obtain ⟨z41, e41, hM⟩ := bindE hM
      obtain ⟨kk41, ke41, kz41, kl41⟩ := idxE e41
      obtain ⟨b41, o41, vs41, hA41, hD41, hR41, hrel41⟩ := Hp.at hm38 0 rfl kz41
      obtain ⟨_, _, rfl, ⟨rfl, _⟩, ⟨rfl, _⟩⟩ := hrel41
      have hm43 : Hp Z0 No w w38 [slR A0 c0 T_limnographref14_Thing.rep x0, ownR 54 (some ⟨g40, 0, none⟩) c8 T_limnographref14_Thing.rep y7, rdR b41 (o41 + kk41 * 2) [Str (z41.Key), .int .i64 (z41.V)]] := Hp.knowL [rdR b41 (o41 + kk41 * 2) [Str (z41.Key), .int .i64 (z41.V)]] _ hm38 (knC (fun _ h => h) ⟨fun _ => hD41, hR41⟩ kn0)
      refine RH.takeP 11 (by kernel_rfl) rfl rfl rfl rfl (V.ixA' hA41 kk41 Try.underlying27 Try.sizeOf54 rfl rfl ke41 kl41) ?_
      refine RH.takeP 12 (by kernel_rfl) rfl rfl rfl rfl (V.fa Try.underlying54 rfl Try.sizeOf9 rfl rfl) ?_
      refine RH.takeP 13 (by kernel_rfl) rfl rfl rfl rfl (V.ldR0 Try.isAgg9 rfl (hm43.get 2 rfl).2 rfl) ?_
      refine RH.takeP 14 (by kernel_rfl) rfl rfl rfl rfl (V.gtrS rfl rfl) ?_
      refine RH.takeP 15 (by kernel_rfl) rfl rfl rfl rfl (V.pkT rfl rfl) ?_
      refine RH.doneP (by kernel_rfl) ?_
      exact hk3 (Op.bytesLess z41.Key z40.Key) _ _ (Sub.cons rfl (Sub.cons rfl (Sub.cons rfl (Sub.cons rfl (Sub.cons rfl (Sub.nil _)))))) (hm43.pick [0, 1] rfl (by decide)) hM
    · replace hM := iteF h39 hM
      refine RH.no 3 (by kernel_rfl) rfl rfl rfl rfl ?_
      refine RH.no 4 (by kernel_rfl) rfl rfl rfl rfl ?_
      refine RH.no 5 (by kernel_rfl) rfl rfl rfl rfl ?_
      refine RH.no 6 (by kernel_rfl) rfl rfl rfl rfl ?_
      refine RH.no 7 (by kernel_rfl) rfl rfl rfl rfl ?_
      refine RH.no 8 (by kernel_rfl) rfl rfl rfl rfl ?_
      refine RH.no 9 (by kernel_rfl) rfl rfl rfl rfl ?_
      refine RH.no 10 (by kernel_rfl) rfl rfl rfl rfl ?_
      refine RH.no 11 (by kernel_rfl) rfl rfl rfl rfl ?_
      refine RH.no 12 (by kernel_rfl) rfl rfl rfl rfl ?_
      refine RH.no 13 (by kernel_rfl) rfl rfl rfl rfl ?_
      refine RH.no 14 (by kernel_rfl) rfl rfl rfl rfl ?_
      refine RH.takeP 15 (by kernel_rfl) rfl rfl rfl rfl (V.pkF rfl rfl) ?_
      refine RH.doneP (by kernel_rfl) ?_
      exact hk3 false _ _ (Sub.cons rfl (Sub.cons rfl (Sub.cons rfl (Sub.cons rfl (Sub.cons rfl (Sub.nil _)))))) (hm38.pick [0, 1] rfl (by decide)) hM
  · replace hM := iteF h14 hM
    refine Rn.exit rfl ?_
    exact hk1 (y7, A8, c8) _ _ (Sub.cons rfl (Sub.nil _)) (hm13.pick [0, 1] rfl (by decide)) hM

set_option maxRecDepth 20000 in
theorem m_table_Table_int_Keys_sim {Z0 : Nat → Prop} (w : World) (F0 : Nat → Prop) (b0 : Nat) (x0 : T_table_Table_int_) {r : (List (List UInt8))} (f0 : (fzR (T_table_Table_int_.obj F0 b0 x0)).H Z0 w) (hM : m_table_Table_int_Keys x0 = some r) :
    Calls Try.prog 18 #[.pointer (some ⟨b0, 0, none⟩)] w fun x w' => ∃ A_0_0 c_0_0, x = .returned (.slice A_0_0 (r).length c_0_0) ∧ Hp Z0 No w w' [ownR 9 A_0_0 c_0_0 textR r] := by
  have hm0 := Hp.nil Z0 No w
  have hc0 := Calm.nil
  have hm2 := hm0.know (fzR (T_table_Table_int_.obj F0 b0 x0)) (fun _ h => h) (hm0.in0 hc0 f0)
  replace hc0 := hc0.snoc (r := fzR (T_table_Table_int_.obj F0 b0 x0)) (fun _ h => h)
  refine Rn.enter Try.func18 rfl rfl (Nat.le_of_ble_eq_true rfl) ?_
  refine Rn.seq (Rn.reg (Rn.v rfl rfl rfl rfl (V.as rfl) (Rn.regEnd (Rn.seq (Rn.reg (Rn.v rfl rfl rfl rfl (V.mv rfl) (Rn.v rfl rfl rfl rfl (V.nil rfl) (Rn.v rfl rfl rfl rfl (V.fa Try.underlying48 rfl Try.sizeOf46 rfl rfl) ?_))))))))
  obtain ⟨_, ⟨m3_0, rfl⟩, hm3⟩ := hm2.unfz 0 rfl
  replace hm3 : Hp Z0 No w w [fzR (T_table_Table_int_.obj F0 b0 x0), fzR (boxR b0 48 [.int .i64 (x0.most), .int .i64 (x0.clock), .map (some m3_0)]), fzR (mapR m3_0 vA T_table_slot_int_.rep x0.m)] := hm3
  refine Rn.v rfl rfl rfl rfl (V.ldB Try.isAgg46 rfl (hm3.getz 1 rfl) rfl) ?_
  have hkm6 := (hm3.getz 2 rfl)
  refine Rn.cl ck24 rfl rfl rfl rfl (callsIn_wide.1 (Try.maps_Keys_24 (some m3_0) _)) ?_
  rintro _ w6 ⟨rfl, hk6⟩
  refine ⟨_, rfl, ?_⟩
  have hm7 := hm3.ext (show Ext w w6 from hk6 ▸ Ext.alloc _ _)
  obtain ⟨z8, e8, hM⟩ := bindE hM
  refine Rn.cl ck23 rfl rfl rfl rfl (sorted_keys Try.underlying9 (fun b nn D0 R w => Try.slices_Sorted_keys_23_24 b nn D0 R w) hk6 hkm6 e8) ?_
  rintro _ w8 ⟨A8, c8, rfl, hq8⟩
  refine ⟨_, rfl, ?_⟩
  have hm10 : Hp Z0 No w w8 [fzR (T_table_Table_int_.obj F0 b0 x0), fzR (boxR b0 48 [.int .i64 (x0.most), .int .i64 (x0.clock), .map (some m3_0)]), fzR (mapR m3_0 vA T_table_slot_int_.rep x0.m), ownR 9 A8 c8 textR z8] := hm7.callF (flC (ownR_flat text_flat _ _ _ _) fl0) hq8
  refine Rn.v rfl rfl rfl rfl (V.as rfl) (Rn.regEnd ?_)
  refine Rn.retG1 Try.func18 rfl (rvT rfl) ?_
  obtain rfl := someE hM
  exact ⟨A8, c8, rfl, hm10.pick [3] rfl (by decide)⟩

set_option maxRecDepth 20000 in
theorem m_table_Table_int_Len_sim {Z0 : Nat → Prop} (w : World) (F0 : Nat → Prop) (b0 : Nat) (x0 : T_table_Table_int_) {r : Int} (f0 : (fzR (T_table_Table_int_.obj F0 b0 x0)).H Z0 w) (hM : m_table_Table_int_Len x0 = some r) :
    Calls Try.prog 16 #[.pointer (some ⟨b0, 0, none⟩)] w fun x w' => x = .returned (.int .i64 (r)) ∧ Hp Z0 No w w' [] := by
  have hm0 := Hp.nil Z0 No w
  have hc0 := Calm.nil
  have hm2 := hm0.know (fzR (T_table_Table_int_.obj F0 b0 x0)) (fun _ h => h) (hm0.in0 hc0 f0)
  replace hc0 := hc0.snoc (r := fzR (T_table_Table_int_.obj F0 b0 x0)) (fun _ h => h)
  refine Rn.enter Try.func16 rfl rfl (Nat.le_of_ble_eq_true rfl) ?_
  refine Rn.seq (Rn.reg (Rn.v rfl rfl rfl rfl (V.as rfl) (Rn.regEnd (Rn.seq (Rn.reg (Rn.v rfl rfl rfl rfl (V.mv rfl) (Rn.v rfl rfl rfl rfl (V.nil rfl) (Rn.v rfl rfl rfl rfl (V.fa Try.underlying48 rfl Try.sizeOf46 rfl rfl) ?_))))))))
  obtain ⟨_, ⟨m3_0, rfl⟩, hm3⟩ := hm2.unfz 0 rfl
  replace hm3 : Hp Z0 No w w [fzR (T_table_Table_int_.obj F0 b0 x0), fzR (boxR b0 48 [.int .i64 (x0.most), .int .i64 (x0.clock), .map (some m3_0)]), fzR (mapR m3_0 vA T_table_slot_int_.rep x0.m)] := hm3
  refine Rn.v rfl rfl rfl rfl (V.ldB Try.isAgg46 rfl (hm3.getz 1 rfl) rfl) (Rn.v rfl rfl rfl rfl (V.lenMH Try.underlying46 rfl (hm3.getz 2 rfl)) (Rn.v rfl rfl rfl rfl (V.as rfl) (Rn.regEnd ?_)))
  refine Rn.retG1 Try.func16 rfl (rvT rfl) ?_
  obtain rfl := someE hM
  exact ⟨rfl, hm3.pick [] rfl (by decide)⟩

set_option maxRecDepth 20000 in
theorem m_limnographlaw14_same_sim {Z0 : Nat → Prop} (w : World) (F0 : Nat → Prop) (b0 : Nat) (x0 : T_table_Table_int_) (A1 : Option Addr) (c1 : Nat) (x1 : (List T_limnographref14_Thing)) (x2 : Int) {r : Bool} (f0 : (fzR (T_table_Table_int_.obj F0 b0 x0)).H Z0 w) (f1 : (slR A1 c1 T_limnographref14_Thing.rep x1).H Z0 w) (hM : m_limnographlaw14_same x0 x1 x2 = some r) :
    Calls Try.prog 15 #[.pointer (some ⟨b0, 0, none⟩), .slice A1 (x1).length c1, .int .i64 (x2)] w fun x w' => x = .returned (.bool (r)) ∧ Hp Z0 No w w' [] := by
  have hm0 := Hp.nil Z0 No w
  have hc0 := Calm.nil
  have hm3 := hm0.know (fzR (T_table_Table_int_.obj F0 b0 x0)) (fun _ h => h) (hm0.in0 hc0 f0)
  replace hc0 := hc0.snoc (r := fzR (T_table_Table_int_.obj F0 b0 x0)) (fun _ h => h)
  have hm4 := hm3.know (slR A1 c1 T_limnographref14_Thing.rep x1) (fun _ h => h) (hm3.in0 hc0 f1)
  replace hc0 := hc0.snoc (r := slR A1 c1 T_limnographref14_Thing.rep x1) (fun _ h => h)
  refine Rn.enter Try.func15 rfl rfl (Nat.le_of_ble_eq_true rfl) ?_
  refine Rn.seq (Rn.reg (Rn.v rfl rfl rfl rfl (V.as rfl) (Rn.regEnd (Rn.seq (Rn.reg (Rn.v rfl rfl rfl rfl (V.mv rfl) ?_))))))
  obtain ⟨p5, e5, hM⟩ := bindE hM
  refine Rn.cl ck22 rfl rfl rfl rfl (m_limnographref14_Sorted_sim (Z0 := All) _ A1 c1 x1 (slR_all (hm4.get 1 rfl)) e5) ?_
  rintro _ w5 ⟨A5_0_0, c5_0_0, rfl, hq5⟩
  refine ⟨_, rfl, ?_⟩
  have hm7 : Hp Z0 No w w5 [fzR (T_table_Table_int_.obj F0 b0 x0), slR A1 c1 T_limnographref14_Thing.rep x1, ownR 54 A5_0_0 c5_0_0 T_limnographref14_Thing.rep p5] := hm4.callF (flC (ownR_flat T_limnographref14_Thing.flat _ _ _ _) fl0) hq5
  refine Rn.v rfl rfl rfl rfl (V.as rfl) (Rn.regEnd (Rn.seq (Rn.reg (Rn.v rfl rfl rfl rfl (V.mv rfl) ?_))))
  obtain ⟨p8, e8, hM⟩ := bindE hM
  refine Rn.cl ck18 rfl rfl rfl rfl (m_table_Table_int_Keys_sim (Z0 := All) _ F0 b0 x0 (fz_fz (hm7.get 0 rfl)) e8) ?_
  rintro _ w8 ⟨A8_0_0, c8_0_0, rfl, hq8⟩
  refine ⟨_, rfl, ?_⟩
  have hm10 : Hp Z0 No w w8 [fzR (T_table_Table_int_.obj F0 b0 x0), slR A1 c1 T_limnographref14_Thing.rep x1, ownR 54 A5_0_0 c5_0_0 T_limnographref14_Thing.rep p5, ownR 9 A8_0_0 c8_0_0 textR p8] := hm7.callF (flC (ownR_flat text_flat _ _ _ _) fl0) hq8
  refine Rn.v rfl rfl rfl rfl (V.as rfl) (Rn.regEnd (Rn.seq (Rn.seq (Rn.reg (Rn.v rfl rfl rfl rfl (V.mv rfl) (Rn.v rfl rfl rfl rfl (V.lenV Try.underlying42 rfl) (Rn.v rfl rfl rfl rfl (V.mv rfl) (Rn.v rfl rfl rfl rfl (V.lenV Try.underlying27 rfl) (Rn.v rfl rfl rfl rfl (V.neq rfl rfl) (Rn.v rfl rfl rfl rfl (V.mv rfl) ?_))))))))))
  obtain ⟨j1, hj1, hM⟩ := jnE hM
  refine Rn.joinR (r := r) (G := Bool) [12, 13, 14, 15, 16, 17, 18, 19, 20, 21] (fun g => [(0, .pointer (some ⟨b0, 0, none⟩)), (1, .slice A1 (x1).length c1), (2, .int .i64 (x2)), (7, .slice A5_0_0 (p5).length c5_0_0), (8, .slice A8_0_0 (p8).length c8_0_0), (29, .bool (g))]) (fun g w' => Hp Z0 No w w' [fzR (T_table_Table_int_.obj F0 b0 x0), slR A1 c1 T_limnographref14_Thing.rep x1, ownR 54 A5_0_0 c5_0_0 T_limnographref14_Thing.rep p5, ownR 9 A8_0_0 c8_0_0 textR p8]) (fun g => j1 g) ?_ ?_
  · subst hj1
    clear hM
    rintro y11 w12 hm12 hM
    replace hm12 : Hp Z0 No w w12 [fzR (T_table_Table_int_.obj F0 b0 x0), slR A1 c1 T_limnographref14_Thing.rep x1, ownR 54 A5_0_0 c5_0_0 T_limnographref14_Thing.rep p5, ownR 9 A8_0_0 c8_0_0 textR p8] := hm12
    show Rn _ _ _ _ _ [(0, .pointer (some ⟨b0, 0, none⟩)), (1, .slice A1 (x1).length c1), (2, .int .i64 (x2)), (7, .slice A5_0_0 (p5).length c5_0_0), (8, .slice A8_0_0 (p8).length c8_0_0), (29, .bool (y11))] _
    try dsimp only at hM
    refine Rn.v rfl rfl rfl rfl (V.mv rfl) ?_
    obtain ⟨j2, hj2, hM⟩ := jnE hM
    refine Rn.joinR (r := r) (G := Bool) [] (fun g => [(0, .pointer (some ⟨b0, 0, none⟩)), (1, .slice A1 (x1).length c1), (7, .slice A5_0_0 (p5).length c5_0_0), (8, .slice A8_0_0 (p8).length c8_0_0), (39, .bool (g))]) (fun g w' => Hp Z0 No w w' [fzR (T_table_Table_int_.obj F0 b0 x0), slR A1 c1 T_limnographref14_Thing.rep x1, ownR 54 A5_0_0 c5_0_0 T_limnographref14_Thing.rep p5, ownR 9 A8_0_0 c8_0_0 textR p8]) (fun g => j2 g) ?_ ?_
    · subst hj2
      clear hM
      rintro y13 w14 hm14 hM
      replace hm14 : Hp Z0 No w w14 [fzR (T_table_Table_int_.obj F0 b0 x0), slR A1 c1 T_limnographref14_Thing.rep x1, ownR 54 A5_0_0 c5_0_0 T_limnographref14_Thing.rep p5, ownR 9 A8_0_0 c8_0_0 textR p8] := hm14
      show Rn _ _ _ _ _ [(0, .pointer (some ⟨b0, 0, none⟩)), (1, .slice A1 (x1).length c1), (7, .slice A5_0_0 (p5).length c5_0_0), (8, .slice A8_0_0 (p8).length c8_0_0), (39, .bool (y13))] _
      try dsimp only at hM
      refine Rn.regEnd ?_
      refine Rn.condS rfl (fun h15 => ?_) (fun h15 => ?_)
      · replace hM := iteT h15 hM
        refine Rn.seq (Rn.reg (Rn.v rfl rfl rfl rfl (V.as rfl) (Rn.regEnd ?_)))
        refine Rn.retG1 Try.func15 rfl (rvT rfl) ?_
        obtain rfl := someE hM
        exact ⟨rfl, hm14.pick [] rfl (by decide)⟩
      · replace hM := iteF (by rw [h15]; exact Bool.false_ne_true) hM
        refine Rn.skip (Rn.seq (Rn.seq (Rn.reg (Rn.v rfl rfl rfl rfl (V.as rfl) (Rn.regEnd ?_)))))
        obtain ⟨j3, hj3, hM⟩ := jnE hM
        refine Rn.joinG (r := r) (G := Unit) (fun g => [(0, .pointer (some ⟨b0, 0, none⟩)), (1, .slice A1 (x1).length c1)]) (fun g w' => Hp Z0 No w w' [fzR (T_table_Table_int_.obj F0 b0 x0), slR A1 c1 T_limnographref14_Thing.rep x1, ownR 54 A5_0_0 c5_0_0 T_limnographref14_Thing.rep p5, ownR 9 A8_0_0 c8_0_0 textR p8]) (fun g => j3 ()) ?_ ?_
        · subst hj3
          clear hM
          rintro _ w16 hm16 hM
          replace hm16 : Hp Z0 No w w16 [fzR (T_table_Table_int_.obj F0 b0 x0), slR A1 c1 T_limnographref14_Thing.rep x1, ownR 54 A5_0_0 c5_0_0 T_limnographref14_Thing.rep p5, ownR 9 A8_0_0 c8_0_0 textR p8] := hm16
          show Rn _ _ _ _ _ [(0, .pointer (some ⟨b0, 0, none⟩)), (1, .slice A1 (x1).length c1)] _
          try dsimp only at hM
          refine Rn.seq (Rn.reg (Rn.v rfl rfl rfl rfl (V.mv rfl) ?_))
          obtain ⟨p17, e17, hM⟩ := bindE hM
          refine Rn.cl ck17 rfl rfl rfl rfl (m_table_Table_int_Oldest_sim (Z0 := All) _ F0 b0 x0 (fz_fz (hm16.get 0 rfl)) e17) ?_
          rintro _ w17 ⟨rfl, hq17⟩
          refine ⟨_, rfl, ?_⟩
          have hm18 := hm16.call0 hq17
          refine Rn.v rfl rfl rfl rfl (V.mv rfl) (Rn.v rfl rfl rfl rfl (V.ext rfl rfl) (Rn.v rfl rfl rfl rfl (V.ext rfl rfl) (Rn.v rfl rfl rfl rfl (V.as rfl) (Rn.v rfl rfl rfl rfl (V.as rfl) (Rn.regEnd (Rn.seq (Rn.seq (Rn.reg (Rn.v rfl rfl rfl rfl (V.mv rfl) (Rn.v rfl rfl rfl rfl (V.lenV Try.underlying27 rfl) (Rn.v rfl rfl rfl rfl (V.eql rfl rfl) (Rn.regEnd ?_))))))))))))
          refine Rn.condD rfl (fun h19 => ?_) (fun h19 => ?_)
          · replace hM := iteT h19 hM
            refine Rn.seq (Rn.reg (Rn.v rfl rfl rfl rfl (V.mv rfl) (Rn.v rfl rfl rfl rfl (V.eqlS rfl rfl) (Rn.v rfl rfl rfl rfl (V.mv rfl) ?_))))
            refine Rn.cutR [6] [(92, .bool (decide ((p17.1 = ([] : List UInt8)) ∧ ((!p17.2) = true))))] (fun hk20 => ?_) ?_
            · refine Rn.partD (t := 89) rfl (fun h21 => ?_) (fun h21 => ?_)
              · refine Rn.v rfl rfl rfl rfl (V.mv rfl) (Rn.v rfl rfl rfl rfl (V.notB rfl) (Rn.v rfl rfl rfl rfl (V.pkT rfl rfl) ?_))
                refine hk20 _ ?_
                exact Sub.cons (lkv _ rfl (by first | exact andT h21 | exact andF h21 | exact orT h21 | exact orF h21 | exact nandF h21 | exact nandT h21 | exact norT h21 | exact norF h21 | (simp [h21]; done) | grind)) (Sub.nil _)
              · refine Rn.no rfl rfl rfl rfl (Rn.no rfl rfl rfl rfl (Rn.v rfl rfl rfl rfl (V.pkF rfl rfl) ?_))
                refine hk20 _ ?_
                exact Sub.cons (lkv _ rfl (by first | exact andT h21 | exact andF h21 | exact orT h21 | exact orF h21 | exact nandF h21 | exact nandT h21 | exact norT h21 | exact norF h21 | (simp [h21]; done) | grind)) (Sub.nil _)
            refine Rn.v rfl rfl rfl rfl (V.as rfl) (Rn.regEnd ?_)
            refine Rn.retG1 Try.func15 rfl (rvT rfl) ?_
            obtain rfl := someE hM
            exact ⟨rfl, hm18.pick [] rfl (by decide)⟩
          · replace hM := iteF h19 hM
            refine Rn.skip (Rn.seq (Rn.reg (Rn.v rfl rfl rfl rfl (V.mv rfl) (Rn.v rfl rfl rfl rfl (V.mv rfl) ?_))))
            obtain ⟨z22, e22, hM⟩ := bindE hM
            refine Rn.ixH hm18 1 rfl e22 rfl rfl rfl Try.underlying27 Try.sizeOf54 rfl rfl rfl rfl ?_
            rintro b22 o22 vs22 ⟨_, _, rfl, ⟨rfl, _⟩, ⟨rfl, _⟩⟩ hm22
            refine Rn.v rfl rfl rfl rfl (V.fa Try.underlying54 rfl Try.sizeOf9 rfl rfl) (Rn.v rfl rfl rfl rfl (V.ldR0 Try.isAgg9 rfl (hm22.get 4 rfl).2 rfl) (Rn.v rfl rfl rfl rfl (V.eqlS rfl rfl) (Rn.v rfl rfl rfl rfl (V.mv rfl) ?_)))
            refine Rn.cutR [9] [(101, .bool (decide ((p17.1 = z22.Key) ∧ (p17.2 = true))))] (fun hk24 => ?_) ?_
            · refine Rn.partD (t := 99) rfl (fun h25 => ?_) (fun h25 => ?_)
              · refine Rn.v rfl rfl rfl rfl (V.mv rfl) (Rn.v rfl rfl rfl rfl (V.pkT rfl rfl) ?_)
                refine hk24 _ ?_
                exact Sub.cons (lkv _ rfl (by first | exact andT h25 | exact andF h25 | exact orT h25 | exact orF h25 | exact nandF h25 | exact nandT h25 | exact norT h25 | exact norF h25 | (simp [h25]; done) | grind)) (Sub.nil _)
              · refine Rn.no rfl rfl rfl rfl (Rn.v rfl rfl rfl rfl (V.pkF rfl rfl) ?_)
                refine hk24 _ ?_
                exact Sub.cons (lkv _ rfl (by first | exact andT h25 | exact andF h25 | exact orT h25 | exact orF h25 | exact nandF h25 | exact nandT h25 | exact norT h25 | exact norF h25 | (simp [h25]; done) | grind)) (Sub.nil _)
            refine Rn.v rfl rfl rfl rfl (V.as rfl) (Rn.regEnd ?_)
            refine Rn.retG1 Try.func15 rfl (rvT rfl) ?_
            obtain rfl := someE hM
            exact ⟨rfl, hm22.pick [] rfl (by decide)⟩
        intro hk3
        clear hj3
        refine Rn.block ?_
        refine Rn.loopF (G := Int) (fun g => [(0, .pointer (some ⟨b0, 0, none⟩)), (1, .slice A1 (x1).length c1), (7, .slice A5_0_0 (p5).length c5_0_0), (8, .slice A8_0_0 (p8).length c8_0_0), (9, .int .i64 (g))]) (fun g w' => Hp Z0 No w w' [fzR (T_table_Table_int_.obj F0 b0 x0), slR A1 c1 T_limnographref14_Thing.rep x1, ownR 54 A5_0_0 c5_0_0 T_limnographref14_Thing.rep p5, ownR 9 A8_0_0 c8_0_0 textR p8]) (fun n g => m_limnographlaw14_same_L1 x0 p5 p8 j3 n g) fuel 0 (Sub.cons rfl (Sub.cons rfl (Sub.cons rfl (Sub.cons rfl (Sub.cons rfl (Sub.nil _)))))) (hm14.pick [0, 1, 2, 3] rfl (by decide)) hM (fun _ => rfl) ?_
        clear hM
        rintro m27 y26 w27 hm27 hM hn27
        replace hm27 : Hp Z0 No w w27 [fzR (T_table_Table_int_.obj F0 b0 x0), slR A1 c1 T_limnographref14_Thing.rep x1, ownR 54 A5_0_0 c5_0_0 T_limnographref14_Thing.rep p5, ownR 9 A8_0_0 c8_0_0 textR p8] := hm27
        show Rn _ _ _ _ _ [(0, .pointer (some ⟨b0, 0, none⟩)), (1, .slice A1 (x1).length c1), (7, .slice A5_0_0 (p5).length c5_0_0), (8, .slice A8_0_0 (p8).length c8_0_0), (9, .int .i64 (y26))] _
        replace hM : m_limnographlaw14_same_L1 x0 p5 p8 j3 (m27 + 1) y26 = some r := hM
        rw [m_limnographlaw14_same_L1] at hM
        refine Rn.seq (Rn.seq (Rn.reg (Rn.v rfl rfl rfl rfl (V.mv rfl) (Rn.v rfl rfl rfl rfl (V.mv rfl) (Rn.v rfl rfl rfl rfl (V.lenV Try.underlying27 rfl) (Rn.v rfl rfl rfl rfl (V.lss rfl rfl) (Rn.regEnd ?_)))))))
        refine Rn.condD rfl (fun h28 => ?_) (fun h28 => ?_)
        · replace hM := iteT h28 hM
          refine Rn.skip (Rn.seq (Rn.block (Rn.seq (Rn.reg (Rn.v rfl rfl rfl rfl (V.mv rfl) (Rn.v rfl rfl rfl rfl (V.mv rfl) (Rn.v rfl rfl rfl rfl (V.mv rfl) ?_)))))))
          obtain ⟨z29, e29, hM⟩ := bindE hM
          obtain ⟨kk29, ke29, kz29, kl29⟩ := idxE e29
          obtain ⟨g29, vs29, hA29, hR29, hrel29⟩ := hm27.ownAt 2 rfl kz29
          subst hA29
          obtain ⟨_, _, rfl, ⟨rfl, _⟩, ⟨rfl, _⟩⟩ := hrel29
          refine Rn.v rfl rfl rfl rfl (V.ixE kk29 Try.underlying27 Try.sizeOf54 rfl rfl ke29 kl29) (Rn.v rfl rfl rfl rfl (V.fa Try.underlying54 rfl Try.sizeOf9 rfl rfl) (Rn.v rfl rfl rfl rfl (V.ldR0 Try.isAgg9 rfl hR29 rfl) ?_))
          obtain ⟨p30, e30, hM⟩ := bindE hM
          refine Rn.cl ck8 rfl rfl rfl rfl (m_table_Table_int_Get_sim (Z0 := All) _ F0 b0 x0 z29.Key (fz_fz (hm27.get 0 rfl)) e30) ?_
          rintro _ w30 ⟨rfl, hq30⟩
          refine ⟨_, rfl, ?_⟩
          have hm31 := hm27.call0 hq30
          refine Rn.v rfl rfl rfl rfl (V.mv rfl) (Rn.v rfl rfl rfl rfl (V.ext rfl rfl) (Rn.v rfl rfl rfl rfl (V.ext rfl rfl) (Rn.v rfl rfl rfl rfl (V.as rfl) (Rn.v rfl rfl rfl rfl (V.as rfl) (Rn.regEnd (Rn.seq ?_))))))
          obtain ⟨j4, hj4, hM⟩ := jnE hM
          refine Rn.joinG (r := r) (G := Bool) (fun g => [(0, .pointer (some ⟨b0, 0, none⟩)), (1, .slice A1 (x1).length c1), (7, .slice (some ⟨g29, 0, none⟩) (p5).length c5_0_0), (8, .slice A8_0_0 (p8).length c8_0_0), (9, .int .i64 (y26)), (78, .bool (g))]) (fun g w' => Hp Z0 No w w' [fzR (T_table_Table_int_.obj F0 b0 x0), slR A1 c1 T_limnographref14_Thing.rep x1, ownR 54 (some ⟨g29, 0, none⟩) c5_0_0 T_limnographref14_Thing.rep p5, ownR 9 A8_0_0 c8_0_0 textR p8]) (fun g => j4 g) ?_ ?_
          · subst hj4
            clear hM
            rintro y32 w33 hm33 hM
            replace hm33 : Hp Z0 No w w33 [fzR (T_table_Table_int_.obj F0 b0 x0), slR A1 c1 T_limnographref14_Thing.rep x1, ownR 54 (some ⟨g29, 0, none⟩) c5_0_0 T_limnographref14_Thing.rep p5, ownR 9 A8_0_0 c8_0_0 textR p8] := hm33
            show Rn _ _ _ _ _ [(0, .pointer (some ⟨b0, 0, none⟩)), (1, .slice A1 (x1).length c1), (7, .slice (some ⟨g29, 0, none⟩) (p5).length c5_0_0), (8, .slice A8_0_0 (p8).length c8_0_0), (9, .int .i64 (y26)), (78, .bool (y32))] _
            try dsimp only at hM
            refine Rn.condS rfl (fun h34 => ?_) (fun h34 => ?_)
            · replace hM := iteT h34 hM
              refine Rn.seq (Rn.reg (Rn.v rfl rfl rfl rfl (V.as rfl) (Rn.regEnd ?_)))
              refine Rn.retG1 Try.func15 rfl (rvT rfl) ?_
              obtain rfl := someE hM
              exact ⟨rfl, hm33.pick [] rfl (by decide)⟩
            · replace hM := iteF (by rw [h34]; exact Bool.false_ne_true) hM
              refine Rn.skip (Rn.inBlock (Rn.reg (Rn.v rfl rfl rfl rfl (V.mv rfl) (Rn.v rfl rfl rfl rfl (V.addW rfl rfl) (Rn.v rfl rfl rfl rfl (V.as rfl) (Rn.regEnd ?_))))))
              exact hn27 (W64 (y26 + 1)) _ _ (Sub.cons rfl (Sub.cons rfl (Sub.cons rfl (Sub.cons rfl (Sub.cons rfl (Sub.nil _)))))) (hm33.pick [0, 1, 2, 3] rfl (by decide)) hM
          intro hk4
          clear hj4
          refine Rn.drawP rfl hm31 ?_
          intro w35 hm35
          refine RH.takeP 0 (by kernel_rfl) rfl rfl rfl rfl (V.mv rfl) ?_
          refine RH.takeP 1 (by kernel_rfl) rfl rfl rfl rfl (V.mv rfl) ?_
          obtain ⟨z36, e36, hM⟩ := bindE hM
          obtain ⟨kk36, ke36, kz36, kl36⟩ := idxE e36
          obtain ⟨g36, vs36, hA36, hR36, hrel36⟩ := hm35.ownAt 3 rfl kz36
          subst hA36
          obtain ⟨rfl, _⟩ := hrel36
          refine RH.takeP 2 (by kernel_rfl) rfl rfl rfl rfl (V.ixE kk36 Try.underlying42 Try.sizeOf9 rfl rfl ke36 kl36) ?_
          refine RH.takeP 3 (by kernel_rfl) rfl rfl rfl rfl (V.ldR0 Try.isAgg9 rfl hR36 rfl) ?_
          refine RH.takeP 4 (by kernel_rfl) rfl rfl rfl rfl (V.mv rfl) ?_
          refine RH.takeP 5 (by kernel_rfl) rfl rfl rfl rfl (V.mv rfl) ?_
          obtain ⟨z37, e37, hM⟩ := bindE hM
          obtain ⟨kk37, ke37, kz37, kl37⟩ := idxE e37
          obtain ⟨vs37, hR37, hrel37⟩ := hm35.ownAtL 2 rfl kz37
          obtain ⟨_, _, rfl, ⟨rfl, _⟩, ⟨rfl, _⟩⟩ := hrel37
          refine RH.takeP 6 (by kernel_rfl) rfl rfl rfl rfl (V.ixE kk37 Try.underlying27 Try.sizeOf54 rfl rfl ke37 kl37) ?_
          refine RH.takeP 7 (by kernel_rfl) rfl rfl rfl rfl (V.fa Try.underlying54 rfl Try.sizeOf9 rfl rfl) ?_
          refine RH.takeP 8 (by kernel_rfl) rfl rfl rfl rfl (V.ldR0 Try.isAgg9 rfl hR37 rfl) ?_
          refine RH.takeP 9 (by kernel_rfl) rfl rfl rfl rfl (V.neqS rfl rfl) ?_
          refine RH.takeP 10 (by kernel_rfl) rfl rfl rfl rfl (V.mv rfl) ?_
          refine RH.partD (t := 66) rfl (fun h38 => ?_) (fun h38 => ?_)
          · replace hM := iteT h38 hM
            refine RH.no 11 (by kernel_rfl) rfl rfl rfl rfl ?_
            refine RH.no 12 (by kernel_rfl) rfl rfl rfl rfl ?_
            refine RH.no 13 (by kernel_rfl) rfl rfl rfl rfl ?_
            refine RH.no 14 (by kernel_rfl) rfl rfl rfl rfl ?_
            refine RH.no 15 (by kernel_rfl) rfl rfl rfl rfl ?_
            refine RH.no 16 (by kernel_rfl) rfl rfl rfl rfl ?_
            refine RH.no 17 (by kernel_rfl) rfl rfl rfl rfl ?_
            refine RH.takeP 18 (by kernel_rfl) rfl rfl rfl rfl (V.pkT rfl rfl) ?_
            refine RH.takeP 19 (by kernel_rfl) rfl rfl rfl rfl (V.mv rfl) ?_
            refine RH.no 20 (by kernel_rfl) rfl rfl rfl rfl ?_
            refine RH.no 21 (by kernel_rfl) rfl rfl rfl rfl ?_
            refine RH.takeP 22 (by kernel_rfl) rfl rfl rfl rfl (V.pkT rfl rfl) ?_
            refine RH.doneP (by kernel_rfl) ?_
            exact hk4 true _ _ (Sub.cons rfl (Sub.cons rfl (Sub.cons rfl (Sub.cons rfl (Sub.cons rfl (Sub.cons rfl (Sub.nil _))))))) (hm35.pick [0, 1, 2, 3] rfl (by decide)) hM
          · replace hM := iteF h38 hM
            refine RH.takeP 11 (by kernel_rfl) rfl rfl rfl rfl (V.mv rfl) ?_
            refine RH.takeP 12 (by kernel_rfl) rfl rfl rfl rfl (V.mv rfl) ?_
            refine RH.takeP 13 (by kernel_rfl) rfl rfl rfl rfl (V.mv rfl) ?_
            obtain ⟨z39, e39, hM⟩ := bindE hM
            obtain ⟨kk39, ke39, kz39, kl39⟩ := idxE e39
            obtain ⟨vs39, hR39, hrel39⟩ := hm35.ownAtL 2 rfl kz39
            obtain ⟨_, _, rfl, ⟨rfl, _⟩, ⟨rfl, _⟩⟩ := hrel39
            refine RH.takeP 14 (by kernel_rfl) rfl rfl rfl rfl (V.ixE kk39 Try.underlying27 Try.sizeOf54 rfl rfl ke39 kl39) ?_
            refine RH.takeP 15 (by kernel_rfl) rfl rfl rfl rfl (V.fa Try.underlying54 rfl Try.sizeOf3 rfl rfl) ?_
            refine RH.takeP 16 (by kernel_rfl) rfl rfl rfl rfl (V.ldR Try.isAgg3 rfl hR39 rfl) ?_
            refine RH.takeP 17 (by kernel_rfl) rfl rfl rfl rfl (V.neq rfl rfl) ?_
            refine RH.takeP 18 (by kernel_rfl) rfl rfl rfl rfl (V.pkF rfl rfl) ?_
            refine RH.takeP 19 (by kernel_rfl) rfl rfl rfl rfl (V.mv rfl) ?_
            refine RH.partD (t := 75) rfl (fun h40 => ?_) (fun h40 => ?_)
            · replace hM := iteT h40 hM
              refine RH.no 20 (by kernel_rfl) rfl rfl rfl rfl ?_
              refine RH.no 21 (by kernel_rfl) rfl rfl rfl rfl ?_
              refine RH.takeP 22 (by kernel_rfl) rfl rfl rfl rfl (V.pkT rfl rfl) ?_
              refine RH.doneP (by kernel_rfl) ?_
              exact hk4 true _ _ (Sub.cons rfl (Sub.cons rfl (Sub.cons rfl (Sub.cons rfl (Sub.cons rfl (Sub.cons rfl (Sub.nil _))))))) (hm35.pick [0, 1, 2, 3] rfl (by decide)) hM
            · replace hM := iteF h40 hM
              refine RH.takeP 20 (by kernel_rfl) rfl rfl rfl rfl (V.mv rfl) ?_
              refine RH.takeP 21 (by kernel_rfl) rfl rfl rfl rfl (V.notB rfl) ?_
              refine RH.takeP 22 (by kernel_rfl) rfl rfl rfl rfl (V.pkF rfl rfl) ?_
              refine RH.doneP (by kernel_rfl) ?_
              exact hk4 (!p30.2) _ _ (Sub.cons rfl (Sub.cons rfl (Sub.cons rfl (Sub.cons rfl (Sub.cons rfl (Sub.cons rfl (Sub.nil _))))))) (hm35.pick [0, 1, 2, 3] rfl (by decide)) hM
        · replace hM := iteF h28 hM
          refine Rn.exit rfl ?_
          exact hk3 () _ _ (Sub.cons rfl (Sub.cons rfl (Sub.nil _))) (hm27.pick [0, 1, 2, 3] rfl (by decide)) hM
    intro hk2
    clear hj2
    refine Rn.part (t := 30) rfl (fun h41 => ?_) (fun h41 => ?_)
    · replace hM := iteT h41 hM
      refine Rn.no rfl rfl rfl rfl (Rn.no rfl rfl rfl rfl (Rn.no rfl rfl rfl rfl (Rn.no rfl rfl rfl rfl (Rn.no rfl rfl rfl rfl (Rn.no rfl rfl rfl rfl (Rn.no rfl rfl rfl rfl (Rn.no rfl rfl rfl rfl (Rn.v rfl rfl rfl rfl (V.pkT rfl rfl) ?_))))))))
      exact hk2 true _ _ (Sub.cons rfl (Sub.cons rfl (Sub.cons rfl (Sub.cons rfl (Sub.cons rfl (Sub.nil _)))))) (hm12.pick [0, 1, 2, 3] rfl (by decide)) hM
    · replace hM := iteF (by rw [h41]; exact Bool.false_ne_true) hM
      refine Rn.v rfl rfl rfl rfl (V.mv rfl) ?_
      obtain ⟨p42, e42, hM⟩ := bindE hM
      refine Rn.cl ck20 rfl rfl rfl rfl (m_table_Table_int_Room_sim (Z0 := All) _ F0 b0 x0 (fz_fz (hm12.get 0 rfl)) e42) ?_
      rintro _ w42 ⟨rfl, hq42⟩
      refine ⟨_, rfl, ?_⟩
      have hm43 := hm12.call0 hq42
      refine Rn.v rfl rfl rfl rfl (V.mv rfl) (Rn.v rfl rfl rfl rfl (V.maxi rfl rfl) (Rn.v rfl rfl rfl rfl (V.mv rfl) (Rn.v rfl rfl rfl rfl (V.lenV Try.underlying27 rfl) (Rn.v rfl rfl rfl rfl (V.subW rfl rfl) (Rn.v rfl rfl rfl rfl (V.neq rfl rfl) (Rn.v rfl rfl rfl rfl (V.pkF rfl rfl) ?_))))))
      exact hk2 (decide (p42 ≠ W64 ((max x2 0) - (p5.length : Int)))) _ _ (Sub.cons rfl (Sub.cons rfl (Sub.cons rfl (Sub.cons rfl (Sub.cons rfl (Sub.nil _)))))) (hm43.pick [0, 1, 2, 3] rfl (by decide)) hM
  intro hk1
  clear hj1
  refine Rn.partD (t := 23) rfl (fun h44 => ?_) (fun h44 => ?_)
  · replace hM := iteT h44 hM
    refine Rn.no rfl rfl rfl rfl (Rn.no rfl rfl rfl rfl (Rn.no rfl rfl rfl rfl (Rn.no rfl rfl rfl rfl (Rn.no rfl rfl rfl rfl (Rn.v rfl rfl rfl rfl (V.pkT rfl rfl) ?_)))))
    exact hk1 true _ _ (Sub.cons rfl (Sub.cons rfl (Sub.cons rfl (Sub.cons rfl (Sub.cons rfl (Sub.cons rfl (Sub.nil _))))))) (hm10.pick [0, 1, 2, 3] rfl (by decide)) hM
  · replace hM := iteF h44 hM
    refine Rn.v rfl rfl rfl rfl (V.mv rfl) ?_
    obtain ⟨p45, e45, hM⟩ := bindE hM
    refine Rn.cl ck16 rfl rfl rfl rfl (m_table_Table_int_Len_sim (Z0 := All) _ F0 b0 x0 (fz_fz (hm10.get 0 rfl)) e45) ?_
    rintro _ w45 ⟨rfl, hq45⟩
    refine ⟨_, rfl, ?_⟩
    have hm46 := hm10.call0 hq45
    refine Rn.v rfl rfl rfl rfl (V.mv rfl) (Rn.v rfl rfl rfl rfl (V.lenV Try.underlying27 rfl) (Rn.v rfl rfl rfl rfl (V.neq rfl rfl) (Rn.v rfl rfl rfl rfl (V.pkF rfl rfl) ?_)))
    exact hk1 (decide (p45 ≠ (p5.length : Int))) _ _ (Sub.cons rfl (Sub.cons rfl (Sub.cons rfl (Sub.cons rfl (Sub.cons rfl (Sub.cons rfl (Sub.nil _))))))) (hm46.pick [0, 1, 2, 3] rfl (by decide)) hM

set_option maxRecDepth 20000 in
theorem m_limnographlaw14_TablePlays_sim {Z0 : Nat → Prop} (w : World) (x0 : Int) (A1 : Option Addr) (c1 : Nat) (x1 : (List T_limnographlaw14_Act)) {r : Bool} (f0 : (slR A1 c1 T_limnographlaw14_Act.rep x1).H Z0 w) (hM : m_limnographlaw14_TablePlays x0 x1 = some r) :
    Calls Try.prog 3 #[.int .i64 (x0), .slice A1 (x1).length c1] w fun x w' => x = .returned (.bool (r)) ∧ Hp Z0 No w w' [] := by
  have hm0 := Hp.nil Z0 No w
  have hc0 := Calm.nil
  have hm2 := hm0.know (slR A1 c1 T_limnographlaw14_Act.rep x1) (fun _ h => h) (hm0.in0 hc0 f0)
  replace hc0 := hc0.snoc (r := slR A1 c1 T_limnographlaw14_Act.rep x1) (fun _ h => h)
  refine Rn.enter Try.func3 rfl rfl (Nat.le_of_ble_eq_true rfl) ?_
  refine Rn.seq (Rn.reg (Rn.v rfl rfl rfl rfl (V.as rfl) (Rn.regEnd (Rn.seq (Rn.seq (Rn.reg ?_))))))
  obtain ⟨p3, e3, hM⟩ := bindE hM
  refine Rn.cl ck5 rfl rfl rfl rfl (m_limnographlaw14_awake_sim (Z0 := All) _   e3) ?_
  rintro _ w3 ⟨rfl, hq3⟩
  refine ⟨_, rfl, ?_⟩
  have hm4 := hm2.call0 hq3
  refine Rn.v rfl rfl rfl rfl (V.notB rfl) (Rn.regEnd ?_)
  refine Rn.condS rfl (fun h5 => ?_) (fun h5 => ?_)
  · replace hM := iteT h5 hM
    refine Rn.seq (Rn.reg (Rn.v rfl rfl rfl rfl (V.as rfl) (Rn.regEnd ?_)))
    refine Rn.retG1 Try.func3 rfl (rvT rfl) ?_
    obtain rfl := someE hM
    exact ⟨rfl, hm4.pick [] rfl (by decide)⟩
  · replace hM := iteF (by rw [h5]; exact Bool.false_ne_true) hM
    refine Rn.skip (Rn.seq (Rn.seq (Rn.reg (Rn.v rfl rfl rfl rfl (V.mv rfl) ?_))))
    obtain ⟨p6, e6, hM⟩ := bindE hM
    refine Rn.cl ck6 rfl rfl rfl rfl (m_limnographlaw14_few_sim (Z0 := All) _ A1 c1 x1 (slR_all (hm4.get 0 rfl)) e6) ?_
    rintro _ w6 ⟨rfl, hq6⟩
    refine ⟨_, rfl, ?_⟩
    have hm7 := hm4.call0 hq6
    refine Rn.v rfl rfl rfl rfl (V.notB rfl) (Rn.regEnd ?_)
    refine Rn.condS rfl (fun h8 => ?_) (fun h8 => ?_)
    · replace hM := iteT h8 hM
      refine Rn.seq (Rn.reg (Rn.v rfl rfl rfl rfl (V.as rfl) (Rn.regEnd ?_)))
      refine Rn.retG1 Try.func3 rfl (rvT rfl) ?_
      obtain rfl := someE hM
      exact ⟨rfl, hm7.pick [] rfl (by decide)⟩
    · replace hM := iteF (by rw [h8]; exact Bool.false_ne_true) hM
      refine Rn.skip (Rn.seq (Rn.reg (Rn.v rfl rfl rfl rfl (V.mv rfl) ?_)))
      obtain ⟨p9, e9, hM⟩ := bindE hM
      refine Rn.cl ck7 rfl rfl rfl rfl (m_table_New_int_sim (Z0 := Zo Z0 No w [slR A1 c1 T_limnographlaw14_Act.rep x1]) _ x0  e9) ?_
      rintro _ w9 ⟨F9_0, b9_0, rfl, hq9⟩
      refine ⟨_, rfl, ?_⟩
      have hm11 : Hp Z0 No w w9 [slR A1 c1 T_limnographlaw14_Act.rep x1, T_table_Table_int_.obj F9_0 b9_0 p9] := hm7.callZ hq9
      refine Rn.v rfl rfl rfl rfl (V.as rfl) (Rn.regEnd (Rn.seq (Rn.seq (Rn.reg (Rn.v rfl rfl rfl rfl (V.mv rfl) (Rn.v rfl rfl rfl rfl (V.eqlP Try.underlying25 rfl rfl) (Rn.regEnd (Rn.condF rfl (Rn.skip (Rn.seq (Rn.reg (Rn.v rfl rfl rfl rfl (V.as rfl) (Rn.regEnd (Rn.seq (Rn.seq (Rn.reg (Rn.v rfl rfl rfl rfl (V.as rfl) (Rn.regEnd ?_))))))))))))))))))
      obtain ⟨j1, hj1, hM⟩ := jnE hM
      refine Rn.joinG (r := r) (G := (List T_limnographref14_Thing) × T_table_Table_int_ × Option Addr × Nat × (Nat → Prop)) (fun g => [(0, .int .i64 (x0)), (5, .pointer (some ⟨b9_0, 0, none⟩)), (6, .slice (g.2.2.1) ((g.1)).length (g.2.2.2.1))]) (fun g w' => Hp Z0 No w w' [slR A1 c1 T_limnographlaw14_Act.rep x1, slR (g.2.2.1) (g.2.2.2.1) T_limnographref14_Thing.rep (g.1), T_table_Table_int_.obj (g.2.2.2.2) b9_0 (g.2.1)]) (fun g => j1 g.1 g.2.1) ?_ ?_
      · subst hj1
        clear hM
        rintro ⟨y12, y15, A13, c13, F15⟩ w16 hm16 hM
        replace hm16 : Hp Z0 No w w16 [slR A1 c1 T_limnographlaw14_Act.rep x1, slR A13 c13 T_limnographref14_Thing.rep y12, T_table_Table_int_.obj F15 b9_0 y15] := hm16
        show Rn _ _ _ _ _ [(0, .int .i64 (x0)), (5, .pointer (some ⟨b9_0, 0, none⟩)), (6, .slice A13 (y12).length c13)] _
        try dsimp only at hM
        refine Rn.seq (Rn.reg (Rn.v rfl rfl rfl rfl (V.mv rfl) ?_))
        obtain ⟨p17, e17, hM⟩ := bindE hM
        have hm18 : Hp Z0 No w w16 ([slR A1 c1 T_limnographlaw14_Act.rep x1, slR A13 c13 T_limnographref14_Thing.rep y12] ++ [T_table_Table_int_.obj F15 b9_0 y15]) := hm16.pick [0, 1, 2] rfl (by decide)
        refine Rn.cl ck14 rfl rfl rfl rfl (m_table_Table_int_Clone_sim (Z0 := _) _ F15 b9_0 y15 hm18.lend e17) ?_
        rintro _ w17 ⟨F17_0, b17_0, F17_p0, rfl, hq17⟩
        refine ⟨_, rfl, ?_⟩
        have hm21 : Hp Z0 No w w17 [slR A1 c1 T_limnographlaw14_Act.rep x1, slR A13 c13 T_limnographref14_Thing.rep y12, T_table_Table_int_.obj F17_0 b17_0 p17, T_table_Table_int_.obj F17_p0 b9_0 y15] := hm18.callAZ hq17
        refine Rn.v rfl rfl rfl rfl (V.mv rfl) (Rn.v rfl rfl rfl rfl (V.mv rfl) ?_)
        obtain ⟨p22, e22, hM⟩ := bindE hM
        refine Rn.cl ck15 rfl rfl rfl rfl (m_limnographlaw14_same_sim (Z0 := All) _ F17_0 b17_0 p17 A13 c13 y12 x0 (fz_all (hm21.get 2 rfl)) (slR_all (hm21.get 1 rfl)) e22) ?_
        rintro _ w22 ⟨rfl, hq22⟩
        refine ⟨_, rfl, ?_⟩
        have hm23 := hm21.call0 hq22
        refine Rn.v rfl rfl rfl rfl (V.as rfl) (Rn.regEnd ?_)
        refine Rn.retG1 Try.func3 rfl (rvT rfl) ?_
        obtain rfl := someE hM
        exact ⟨rfl, hm23.pick [] rfl (by decide)⟩
      intro hk1
      clear hj1
      refine Rn.block ?_
      have hm29 := hm11.addNil 54 T_limnographref14_Thing.rep
      have hm32 := hm29.freeze 2 rfl
      refine Rn.loopF (G := (List T_limnographref14_Thing) × Int × T_table_Table_int_ × Option Addr × Nat × (Nat → Prop)) (fun g => [(0, .int .i64 (x0)), (1, .slice A1 (x1).length c1), (5, .pointer (some ⟨b9_0, 0, none⟩)), (6, .slice (g.2.2.2.1) ((g.1)).length (g.2.2.2.2.1)), (7, .int .i64 ((g.2.1)))]) (fun g w' => Hp Z0 No w w' [slR A1 c1 T_limnographlaw14_Act.rep x1, slR (g.2.2.2.1) (g.2.2.2.2.1) T_limnographref14_Thing.rep (g.1), T_table_Table_int_.obj (g.2.2.2.2.2) b9_0 (g.2.2.1)]) (fun n g => m_limnographlaw14_TablePlays_L1 x0 x1 j1 n g.1 g.2.1 g.2.2.1) fuel (([] : List T_limnographref14_Thing), 0, p9, none, 0, F9_0) (Sub.cons rfl (Sub.cons rfl (Sub.cons rfl (Sub.cons rfl (Sub.cons rfl (Sub.nil _)))))) (hm32.pick [0, 2, 1] rfl (by decide)) hM (fun _ => rfl) ?_
      clear hM
      rintro m33 ⟨y24, y27, y28, A25, c25, F28⟩ w33 hm33 hM hn33
      replace hm33 : Hp Z0 No w w33 [slR A1 c1 T_limnographlaw14_Act.rep x1, slR A25 c25 T_limnographref14_Thing.rep y24, T_table_Table_int_.obj F28 b9_0 y28] := hm33
      show Rn _ _ _ _ _ [(0, .int .i64 (x0)), (1, .slice A1 (x1).length c1), (5, .pointer (some ⟨b9_0, 0, none⟩)), (6, .slice A25 (y24).length c25), (7, .int .i64 (y27))] _
      replace hM : m_limnographlaw14_TablePlays_L1 x0 x1 j1 (m33 + 1) y24 y27 y28 = some r := hM
      rw [m_limnographlaw14_TablePlays_L1] at hM
      refine Rn.seq (Rn.seq (Rn.reg (Rn.v rfl rfl rfl rfl (V.mv rfl) (Rn.v rfl rfl rfl rfl (V.mv rfl) (Rn.v rfl rfl rfl rfl (V.lenV Try.underlying22 rfl) (Rn.v rfl rfl rfl rfl (V.lss rfl rfl) (Rn.regEnd ?_)))))))
      refine Rn.condD rfl (fun h34 => ?_) (fun h34 => ?_)
      · replace hM := iteT h34 hM
        refine Rn.skip (Rn.seq (Rn.block (Rn.seq (Rn.reg (Rn.v rfl rfl rfl rfl (V.mv rfl) (Rn.v rfl rfl rfl rfl (V.mv rfl) ?_))))))
        obtain ⟨z35, e35, hM⟩ := bindE hM
        refine Rn.ixH hm33 0 rfl e35 rfl rfl rfl Try.underlying22 Try.sizeOf29 rfl rfl rfl rfl ?_
        rintro b35 o35 vs35 ⟨_, _, rfl, ⟨rfl, _⟩, ⟨_, _, rfl, ⟨rfl, _⟩, ⟨rfl, _⟩⟩⟩ hm35
        refine Rn.v rfl rfl rfl rfl (V.ldA Try.isAgg29 Try.sizeOf29 rfl (Rd.pre (hm35.get 3 rfl).2 3) rfl) (Rn.als rfl rfl rfl Try.zeroValue29 rfl Try.sizeOf29 rfl rfl rfl rfl (by first | exact ones rfl | (simp [Value.oneCell']; done)) ?_)
        intro b37 w37 hb37 m37 e37
        have hm39 : Hp Z0 No w w37 [slR A1 c1 T_limnographlaw14_Act.rep x1, slR A25 c25 T_limnographref14_Thing.rep y24, T_table_Table_int_.obj F28 b9_0 y28, rdR b35 o35 [.int .i64 (z35.Kind), Str (z35.Key), .int .i64 (z35.V)], boxR b37 29 [.int .i64 (z35.Kind), Str (z35.Key), .int .i64 (z35.V)]] := hm35.addBox hb37 e37 m37
        refine Rn.regEnd (Rn.seq (Rn.reg (Rn.v rfl rfl rfl rfl (V.mv rfl) (Rn.v rfl rfl rfl rfl (V.fa Try.underlying29 rfl Try.sizeOf9 rfl rfl) (Rn.v rfl rfl rfl rfl (V.ldB Try.isAgg9 rfl (hm39.get 4 rfl) rfl) ?_)))))
        obtain ⟨p40, e40, hM⟩ := bindE hM
        refine Rn.cl ck8 rfl rfl rfl rfl (m_table_Table_int_Get_sim (Z0 := All) _ F28 b9_0 y28 z35.Key (fz_all (hm39.get 2 rfl)) e40) ?_
        rintro _ w40 ⟨rfl, hq40⟩
        refine ⟨_, rfl, ?_⟩
        have hm41 := hm39.call0 hq40
        refine Rn.v rfl rfl rfl rfl (V.mv rfl) (Rn.v rfl rfl rfl rfl (V.ext rfl rfl) (Rn.v rfl rfl rfl rfl (V.ext rfl rfl) (Rn.v rfl rfl rfl rfl (V.as rfl) (Rn.v rfl rfl rfl rfl (V.as rfl) (Rn.regEnd (Rn.seq (Rn.reg (Rn.v rfl rfl rfl rfl (V.mv rfl) (Rn.v rfl rfl rfl rfl (V.fa Try.underlying29 rfl Try.sizeOf9 rfl rfl) (Rn.v rfl rfl rfl rfl (V.ldB Try.isAgg9 rfl (hm41.get 4 rfl) rfl) ?_))))))))))
        obtain ⟨p42, e42, hM⟩ := bindE hM
        refine Rn.cl ck9 rfl rfl rfl rfl (m_limnographref14_Get_sim (Z0 := All) _ A25 c25 y24 z35.Key (slR_all (hm41.get 1 rfl)) e42) ?_
        rintro _ w42 ⟨rfl, hq42⟩
        refine ⟨_, rfl, ?_⟩
        have hm43 := hm41.call0 hq42
        refine Rn.v rfl rfl rfl rfl (V.mv rfl) (Rn.v rfl rfl rfl rfl (V.ext rfl rfl) (Rn.v rfl rfl rfl rfl (V.ext rfl rfl) (Rn.v rfl rfl rfl rfl (V.as rfl) (Rn.v rfl rfl rfl rfl (V.as rfl) (Rn.regEnd (Rn.seq (Rn.seq (Rn.reg (Rn.v rfl rfl rfl rfl (V.mv rfl) (Rn.v rfl rfl rfl rfl (V.mv rfl) (Rn.v rfl rfl rfl rfl (V.neq rfl rfl) (Rn.v rfl rfl rfl rfl (V.mv rfl) ?_))))))))))))
        refine Rn.cutR [] [(0, .int .i64 (x0)), (1, .slice A1 (x1).length c1), (5, .pointer (some ⟨b9_0, 0, none⟩)), (6, .slice A25 (y24).length c25), (7, .int .i64 (y27)), (8, .pointer (some ⟨b37, 0, none⟩)), (12, .bool (p42.2)), (56, .bool (decide ((p40.1 ≠ p42.1) ∨ (p40.2 ≠ p42.2))))] (fun hk44 => ?_) ?_
        · refine Rn.partD (t := 52) rfl (fun h45 => ?_) (fun h45 => ?_)
          · refine Rn.no rfl rfl rfl rfl (Rn.no rfl rfl rfl rfl (Rn.no rfl rfl rfl rfl (Rn.v rfl rfl rfl rfl (V.pkT rfl rfl) ?_)))
            refine hk44 _ ?_
            exact Sub.cons rfl (Sub.cons rfl (Sub.cons rfl (Sub.cons rfl (Sub.cons rfl (Sub.cons rfl (Sub.cons rfl (Sub.cons (lkv _ rfl (by first | exact andT h45 | exact andF h45 | exact orT h45 | exact orF h45 | exact nandF h45 | exact nandT h45 | exact norT h45 | exact norF h45 | (simp [h45]; done) | grind)) (Sub.nil _))))))))
          · refine Rn.v rfl rfl rfl rfl (V.mv rfl) (Rn.v rfl rfl rfl rfl (V.mv rfl) (Rn.v rfl rfl rfl rfl (V.neqB Try.underlying4 rfl rfl) (Rn.v rfl rfl rfl rfl (V.pkF rfl rfl) ?_)))
            refine hk44 _ ?_
            exact Sub.cons rfl (Sub.cons rfl (Sub.cons rfl (Sub.cons rfl (Sub.cons rfl (Sub.cons rfl (Sub.cons rfl (Sub.cons (lkv _ rfl (by first | exact andT h45 | exact andF h45 | exact orT h45 | exact orF h45 | exact nandF h45 | exact nandT h45 | exact norT h45 | exact norF h45 | (simp [h45]; done) | grind)) (Sub.nil _))))))))
        refine Rn.regEnd ?_
        refine Rn.condD rfl (fun h46 => ?_) (fun h46 => ?_)
        · replace hM := iteT h46 hM
          refine Rn.seq (Rn.reg (Rn.v rfl rfl rfl rfl (V.as rfl) (Rn.regEnd ?_)))
          refine Rn.retG1 Try.func3 rfl (rvT rfl) ?_
          obtain rfl := someE hM
          exact ⟨rfl, hm43.pick [] rfl (by decide)⟩
        · replace hM := iteF h46 hM
          refine Rn.skip (Rn.seq (Rn.seq (Rn.reg (Rn.v rfl rfl rfl rfl (V.fa Try.underlying29 rfl Try.sizeOf3 rfl rfl) (Rn.v rfl rfl rfl rfl (V.ldB Try.isAgg3 rfl (hm43.get 4 rfl) rfl) (Rn.regEnd ?_))))))
          obtain ⟨j2, hj2, hM⟩ := jnE hM
          refine Rn.joinG (r := r) (G := (List T_limnographref14_Thing) × T_table_Table_int_ × Option Addr × Nat × (Nat → Prop)) (fun g => [(0, .int .i64 (x0)), (1, .slice A1 (x1).length c1), (5, .pointer (some ⟨b9_0, 0, none⟩)), (6, .slice (g.2.2.1) ((g.1)).length (g.2.2.2.1)), (7, .int .i64 (y27))]) (fun g w' => Hp Z0 No w w' [slR A1 c1 T_limnographlaw14_Act.rep x1, slR A25 c25 T_limnographref14_Thing.rep y24, rdR b35 o35 [.int .i64 (z35.Kind), Str (z35.Key), .int .i64 (z35.V)], boxR b37 29 [.int .i64 (z35.Kind), Str (z35.Key), .int .i64 (z35.V)], slR (g.2.2.1) (g.2.2.2.1) T_limnographref14_Thing.rep (g.1), T_table_Table_int_.obj (g.2.2.2.2) b9_0 (g.2.1)]) (fun g => j2 g.1 g.2.1) ?_ ?_
          · subst hj2
            clear hM
            rintro ⟨y47, y50, A48, c48, F50⟩ w51 hm51 hM
            replace hm51 : Hp Z0 No w w51 [slR A1 c1 T_limnographlaw14_Act.rep x1, slR A25 c25 T_limnographref14_Thing.rep y24, rdR b35 o35 [.int .i64 (z35.Kind), Str (z35.Key), .int .i64 (z35.V)], boxR b37 29 [.int .i64 (z35.Kind), Str (z35.Key), .int .i64 (z35.V)], slR A48 c48 T_limnographref14_Thing.rep y47, T_table_Table_int_.obj F50 b9_0 y50] := hm51
            show Rn _ _ _ _ _ [(0, .int .i64 (x0)), (1, .slice A1 (x1).length c1), (5, .pointer (some ⟨b9_0, 0, none⟩)), (6, .slice A48 (y47).length c48), (7, .int .i64 (y27))] _
            try dsimp only at hM
            refine Rn.seq (Rn.reg (Rn.v rfl rfl rfl rfl (V.mv rfl) (Rn.v rfl rfl rfl rfl (V.mv rfl) (Rn.v rfl rfl rfl rfl (V.mv rfl) ?_))))
            obtain ⟨p52, e52, hM⟩ := bindE hM
            refine Rn.cl ck15 rfl rfl rfl rfl (m_limnographlaw14_same_sim (Z0 := All) _ F50 b9_0 y50 A48 c48 y47 x0 (fz_all (hm51.get 5 rfl)) (slR_all (hm51.get 4 rfl)) e52) ?_
            rintro _ w52 ⟨rfl, hq52⟩
            refine ⟨_, rfl, ?_⟩
            have hm53 := hm51.call0 hq52
            refine Rn.v rfl rfl rfl rfl (V.notB rfl) (Rn.v rfl rfl rfl rfl (V.mv rfl) ?_)
            obtain ⟨j3, hj3, hM⟩ := jnE hM
            refine Rn.joinR (r := r) (G := Bool × (Nat → Prop)) [] (fun g => [(0, .int .i64 (x0)), (1, .slice A1 (x1).length c1), (5, .pointer (some ⟨b9_0, 0, none⟩)), (6, .slice A48 (y47).length c48), (7, .int .i64 (y27)), (115, .bool ((g.1)))]) (fun g w' => Hp Z0 No w w' [slR A1 c1 T_limnographlaw14_Act.rep x1, slR A25 c25 T_limnographref14_Thing.rep y24, rdR b35 o35 [.int .i64 (z35.Kind), Str (z35.Key), .int .i64 (z35.V)], boxR b37 29 [.int .i64 (z35.Kind), Str (z35.Key), .int .i64 (z35.V)], slR A48 c48 T_limnographref14_Thing.rep y47, T_table_Table_int_.obj (g.2) b9_0 y50]) (fun g => j3 g.1) ?_ ?_
            · subst hj3
              clear hM
              rintro ⟨y55, F54⟩ w56 hm56 hM
              replace hm56 : Hp Z0 No w w56 [slR A1 c1 T_limnographlaw14_Act.rep x1, slR A25 c25 T_limnographref14_Thing.rep y24, rdR b35 o35 [.int .i64 (z35.Kind), Str (z35.Key), .int .i64 (z35.V)], boxR b37 29 [.int .i64 (z35.Kind), Str (z35.Key), .int .i64 (z35.V)], slR A48 c48 T_limnographref14_Thing.rep y47, T_table_Table_int_.obj F54 b9_0 y50] := hm56
              show Rn _ _ _ _ _ [(0, .int .i64 (x0)), (1, .slice A1 (x1).length c1), (5, .pointer (some ⟨b9_0, 0, none⟩)), (6, .slice A48 (y47).length c48), (7, .int .i64 (y27)), (115, .bool (y55))] _
              try dsimp only at hM
              refine Rn.regEnd ?_
              refine Rn.condS rfl (fun h57 => ?_) (fun h57 => ?_)
              · replace hM := iteT h57 hM
                refine Rn.seq (Rn.reg (Rn.v rfl rfl rfl rfl (V.as rfl) (Rn.regEnd ?_)))
                refine Rn.retG1 Try.func3 rfl (rvT rfl) ?_
                obtain rfl := someE hM
                exact ⟨rfl, hm56.pick [] rfl (by decide)⟩
              · replace hM := iteF (by rw [h57]; exact Bool.false_ne_true) hM
                refine Rn.skip (Rn.inBlock (Rn.reg (Rn.v rfl rfl rfl rfl (V.mv rfl) (Rn.v rfl rfl rfl rfl (V.addW rfl rfl) (Rn.v rfl rfl rfl rfl (V.as rfl) (Rn.regEnd ?_))))))
                exact hn33 (y47, (W64 (y27 + 1)), y50, A48, c48, F54) _ _ (Sub.cons rfl (Sub.cons rfl (Sub.cons rfl (Sub.cons rfl (Sub.cons rfl (Sub.nil _)))))) (hm56.pick [0, 4, 5] rfl (by decide)) hM
            intro hk3
            clear hj3
            refine Rn.part (t := 109) rfl (fun h58 => ?_) (fun h58 => ?_)
            · replace hM := iteT h58 hM
              refine Rn.no rfl rfl rfl rfl (Rn.no rfl rfl rfl rfl (Rn.no rfl rfl rfl rfl (Rn.no rfl rfl rfl rfl (Rn.no rfl rfl rfl rfl (Rn.v rfl rfl rfl rfl (V.pkT rfl rfl) ?_)))))
              exact hk3 (true, F50) _ _ (Sub.cons rfl (Sub.cons rfl (Sub.cons rfl (Sub.cons rfl (Sub.cons rfl (Sub.cons rfl (Sub.nil _))))))) (hm53.pick [0, 1, 2, 3, 4, 5] rfl (by decide)) hM
            · replace hM := iteF (by rw [h58]; exact Bool.false_ne_true) hM
              refine Rn.v rfl rfl rfl rfl (V.mv rfl) ?_
              obtain ⟨p59, e59, hM⟩ := bindE hM
              refine Rn.cl ck16 rfl rfl rfl rfl (m_table_Table_int_Len_sim (Z0 := All) _ F50 b9_0 y50 (fz_all (hm53.get 5 rfl)) e59) ?_
              rintro _ w59 ⟨rfl, hq59⟩
              refine ⟨_, rfl, ?_⟩
              have hm60 := hm53.call0 hq59
              refine Rn.v rfl rfl rfl rfl (V.mv rfl) (Rn.v rfl rfl rfl rfl (V.maxi rfl rfl) (Rn.v rfl rfl rfl rfl (V.gtr rfl rfl) (Rn.v rfl rfl rfl rfl (V.pkF rfl rfl) ?_)))
              exact hk3 ((decide (p59 > max x0 0)), F50) _ _ (Sub.cons rfl (Sub.cons rfl (Sub.cons rfl (Sub.cons rfl (Sub.cons rfl (Sub.cons rfl (Sub.nil _))))))) (hm60.pick [0, 1, 2, 3, 4, 5] rfl (by decide)) hM
          intro hk2
          clear hj2
          refine Rn.block (Rn.seq (Rn.reg (Rn.v rfl rfl rfl rfl (V.eql rfl rfl) (Rn.v rfl rfl rfl rfl (V.as rfl) (Rn.regEnd ?_)))))
          refine Rn.condD rfl (fun h61 => ?_) (fun h61 => ?_)
          · replace hM := iteT h61 hM
            refine Rn.seq (Rn.reg (Rn.v rfl rfl rfl rfl (V.mv rfl) (Rn.v rfl rfl rfl rfl (V.mv rfl) (Rn.v rfl rfl rfl rfl (V.fa Try.underlying29 rfl Try.sizeOf9 rfl rfl) (Rn.v rfl rfl rfl rfl (V.ldB Try.isAgg9 rfl (hm43.get 4 rfl) rfl) (Rn.v rfl rfl rfl rfl (V.fa Try.underlying29 rfl Try.sizeOf3 rfl rfl) (Rn.v rfl rfl rfl rfl (V.ldB Try.isAgg3 rfl (hm43.get 4 rfl) rfl) ?_)))))))
            obtain ⟨p62, e62, hM⟩ := bindE hM
            refine Rn.cl ck10 rfl rfl rfl rfl (m_limnographref14_Put_sim (Z0 := Zo Z0 No w [slR A1 c1 T_limnographlaw14_Act.rep x1, slR A25 c25 T_limnographref14_Thing.rep y24, T_table_Table_int_.obj F28 b9_0 y28, rdR b35 o35 [.int .i64 (z35.Kind), Str (z35.Key), .int .i64 (z35.V)], boxR b37 29 [.int .i64 (z35.Kind), Str (z35.Key), .int .i64 (z35.V)]]) _ A25 c25 y24 x0 z35.Key z35.V (hm43.get 1 rfl) e62) ?_
            rintro _ w62 ⟨A62_0_0, c62_0_0, rfl, hq62⟩
            refine ⟨_, rfl, ?_⟩
            have hm64 : Hp Z0 No w w62 [slR A1 c1 T_limnographlaw14_Act.rep x1, slR A25 c25 T_limnographref14_Thing.rep y24, T_table_Table_int_.obj F28 b9_0 y28, rdR b35 o35 [.int .i64 (z35.Kind), Str (z35.Key), .int .i64 (z35.V)], boxR b37 29 [.int .i64 (z35.Kind), Str (z35.Key), .int .i64 (z35.V)], slR A62_0_0 c62_0_0 T_limnographref14_Thing.rep p62.1] := hm43.callZ hq62
            refine Rn.v rfl rfl rfl rfl (V.mv rfl) (Rn.v rfl rfl rfl rfl (V.ext rfl rfl) (Rn.v rfl rfl rfl rfl (V.ext rfl rfl) (Rn.v rfl rfl rfl rfl (V.as rfl) (Rn.v rfl rfl rfl rfl (V.as rfl) (Rn.regEnd (Rn.seq (Rn.seq (Rn.reg (Rn.v rfl rfl rfl rfl (V.mv rfl) (Rn.v rfl rfl rfl rfl (V.fa Try.underlying29 rfl Try.sizeOf9 rfl rfl) (Rn.v rfl rfl rfl rfl (V.ldB Try.isAgg9 rfl (hm64.get 4 rfl) rfl) (Rn.v rfl rfl rfl rfl (V.fa Try.underlying29 rfl Try.sizeOf3 rfl rfl) (Rn.v rfl rfl rfl rfl (V.ldB Try.isAgg3 rfl (hm64.get 4 rfl) rfl) ?_)))))))))))))
            obtain ⟨p65, e65, hM⟩ := bindE hM
            have hm66 : Hp Z0 No w w62 ([slR A1 c1 T_limnographlaw14_Act.rep x1, slR A25 c25 T_limnographref14_Thing.rep y24, rdR b35 o35 [.int .i64 (z35.Kind), Str (z35.Key), .int .i64 (z35.V)], boxR b37 29 [.int .i64 (z35.Kind), Str (z35.Key), .int .i64 (z35.V)], slR A62_0_0 c62_0_0 T_limnographref14_Thing.rep p62.1] ++ [T_table_Table_int_.obj F28 b9_0 y28]) := hm64.pick [0, 1, 3, 4, 5, 2] rfl (by decide)
            refine Rn.cl ck11 rfl rfl rfl rfl (m_table_Table_int_Put_sim (Z0 := _) _ F28 b9_0 y28 z35.Key z35.V hm66.lend e65) ?_
            rintro _ w65 ⟨F65_p0, rfl, hq65⟩
            refine ⟨_, rfl, ?_⟩
            have hm68 : Hp Z0 No w w65 [slR A1 c1 T_limnographlaw14_Act.rep x1, slR A25 c25 T_limnographref14_Thing.rep y24, rdR b35 o35 [.int .i64 (z35.Kind), Str (z35.Key), .int .i64 (z35.V)], boxR b37 29 [.int .i64 (z35.Kind), Str (z35.Key), .int .i64 (z35.V)], slR A62_0_0 c62_0_0 T_limnographref14_Thing.rep p62.1, T_table_Table_int_.obj F65_p0 b9_0 p65.2] := hm66.callAZ hq65
            refine Rn.v rfl rfl rfl rfl (V.mv rfl) (Rn.v rfl rfl rfl rfl (V.neqB Try.underlying4 rfl rfl) (Rn.regEnd ?_))
            refine Rn.condD rfl (fun h69 => ?_) (fun h69 => ?_)
            · replace hM := iteT h69 hM
              refine Rn.seq (Rn.reg (Rn.v rfl rfl rfl rfl (V.as rfl) (Rn.regEnd ?_)))
              refine Rn.retG1 Try.func3 rfl (rvT rfl) ?_
              obtain rfl := someE hM
              exact ⟨rfl, hm68.pick [] rfl (by decide)⟩
            · replace hM := iteF h69 hM
              refine Rn.skip (Rn.reg (Rn.v rfl rfl rfl rfl (V.mv rfl) (Rn.v rfl rfl rfl rfl (V.as rfl) (Rn.regEnd (Rn.inBlock ?_)))))
              exact hk2 (p62.1, p65.2, A62_0_0, c62_0_0, F65_p0) _ _ (Sub.cons rfl (Sub.cons rfl (Sub.cons rfl (Sub.cons rfl (Sub.cons rfl (Sub.nil _)))))) (hm68.pick [0, 1, 2, 3, 4, 5] rfl (by decide)) hM
          · replace hM := iteF h61 hM
            refine Rn.seq (Rn.reg (Rn.v rfl rfl rfl rfl (V.eql rfl rfl) (Rn.v rfl rfl rfl rfl (V.as rfl) (Rn.regEnd ?_))))
            refine Rn.condD rfl (fun h70 => ?_) (fun h70 => ?_)
            · replace hM := iteT h70 hM
              refine Rn.seq (Rn.seq (Rn.reg (Rn.v rfl rfl rfl rfl (V.mv rfl) (Rn.v rfl rfl rfl rfl (V.fa Try.underlying29 rfl Try.sizeOf9 rfl rfl) (Rn.v rfl rfl rfl rfl (V.ldB Try.isAgg9 rfl (hm43.get 4 rfl) rfl) ?_)))))
              obtain ⟨p71, e71, hM⟩ := bindE hM
              have hm72 : Hp Z0 No w w42 ([slR A1 c1 T_limnographlaw14_Act.rep x1, slR A25 c25 T_limnographref14_Thing.rep y24, rdR b35 o35 [.int .i64 (z35.Kind), Str (z35.Key), .int .i64 (z35.V)], boxR b37 29 [.int .i64 (z35.Kind), Str (z35.Key), .int .i64 (z35.V)]] ++ [T_table_Table_int_.obj F28 b9_0 y28]) := hm43.pick [0, 1, 3, 4, 2] rfl (by decide)
              refine Rn.cl ck12 rfl rfl rfl rfl (m_table_Table_int_Del_sim (Z0 := _) _ F28 b9_0 y28 z35.Key hm72.lend e71) ?_
              rintro _ w71 ⟨F71_p0, rfl, hq71⟩
              refine ⟨_, rfl, ?_⟩
              have hm74 : Hp Z0 No w w71 [slR A1 c1 T_limnographlaw14_Act.rep x1, slR A25 c25 T_limnographref14_Thing.rep y24, rdR b35 o35 [.int .i64 (z35.Kind), Str (z35.Key), .int .i64 (z35.V)], boxR b37 29 [.int .i64 (z35.Kind), Str (z35.Key), .int .i64 (z35.V)], T_table_Table_int_.obj F71_p0 b9_0 p71.2] := hm72.callAZ hq71
              refine Rn.v rfl rfl rfl rfl (V.mv rfl) (Rn.v rfl rfl rfl rfl (V.neqB Try.underlying4 rfl rfl) (Rn.regEnd ?_))
              refine Rn.condD rfl (fun h75 => ?_) (fun h75 => ?_)
              · replace hM := iteT h75 hM
                refine Rn.seq (Rn.reg (Rn.v rfl rfl rfl rfl (V.as rfl) (Rn.regEnd ?_)))
                refine Rn.retG1 Try.func3 rfl (rvT rfl) ?_
                obtain rfl := someE hM
                exact ⟨rfl, hm74.pick [] rfl (by decide)⟩
              · replace hM := iteF h75 hM
                refine Rn.skip (Rn.reg (Rn.v rfl rfl rfl rfl (V.mv rfl) (Rn.v rfl rfl rfl rfl (V.fa Try.underlying29 rfl Try.sizeOf9 rfl rfl) (Rn.v rfl rfl rfl rfl (V.ldB Try.isAgg9 rfl (hm74.get 3 rfl) rfl) ?_))))
                obtain ⟨p76, e76, hM⟩ := bindE hM
                refine Rn.cl ck13 rfl rfl rfl rfl (m_limnographref14_Del_sim (Z0 := All) _ A25 c25 y24 z35.Key (slR_all (hm74.get 1 rfl)) e76) ?_
                rintro _ w76 ⟨A76_0_0, c76_0_0, rfl, hq76⟩
                refine ⟨_, rfl, ?_⟩
                have hm78 : Hp Z0 No w w76 [slR A1 c1 T_limnographlaw14_Act.rep x1, slR A25 c25 T_limnographref14_Thing.rep y24, rdR b35 o35 [.int .i64 (z35.Kind), Str (z35.Key), .int .i64 (z35.V)], boxR b37 29 [.int .i64 (z35.Kind), Str (z35.Key), .int .i64 (z35.V)], T_table_Table_int_.obj F71_p0 b9_0 p71.2, ownR 54 A76_0_0 c76_0_0 T_limnographref14_Thing.rep p76] := hm74.callF (flC (ownR_flat T_limnographref14_Thing.flat _ _ _ _) fl0) hq76
                refine Rn.v rfl rfl rfl rfl (V.as rfl) (Rn.regEnd (Rn.inBlock ?_))
                have hm80 := hm78.freeze 5 rfl
                exact hk2 (p76, p71.2, A76_0_0, c76_0_0, F71_p0) _ _ (Sub.cons rfl (Sub.cons rfl (Sub.cons rfl (Sub.cons rfl (Sub.cons rfl (Sub.nil _)))))) (hm80.pick [0, 1, 2, 3, 5, 4] rfl (by decide)) hM
            · replace hM := iteF h70 hM
              refine Rn.seq (Rn.reg (Rn.v rfl rfl rfl rfl (V.eql rfl rfl) (Rn.v rfl rfl rfl rfl (V.as rfl) (Rn.regEnd ?_))))
              refine Rn.condD rfl (fun h81 => ?_) (fun h81 => ?_)
              · replace hM := iteT h81 hM
                refine Rn.seq (Rn.reg (Rn.v rfl rfl rfl rfl (V.mv rfl) ?_))
                obtain ⟨p82, e82, hM⟩ := bindE hM
                have hm83 : Hp Z0 No w w42 ([slR A1 c1 T_limnographlaw14_Act.rep x1, slR A25 c25 T_limnographref14_Thing.rep y24, rdR b35 o35 [.int .i64 (z35.Kind), Str (z35.Key), .int .i64 (z35.V)], boxR b37 29 [.int .i64 (z35.Kind), Str (z35.Key), .int .i64 (z35.V)]] ++ [T_table_Table_int_.obj F28 b9_0 y28]) := hm43.pick [0, 1, 3, 4, 2] rfl (by decide)
                refine Rn.cl ck14 rfl rfl rfl rfl (m_table_Table_int_Clone_sim (Z0 := _) _ F28 b9_0 y28 hm83.lend e82) ?_
                rintro _ w82 ⟨F82_0, b82_0, F82_p0, rfl, hq82⟩
                refine ⟨_, rfl, ?_⟩
                have hm86 : Hp Z0 No w w82 [slR A1 c1 T_limnographlaw14_Act.rep x1, slR A25 c25 T_limnographref14_Thing.rep y24, rdR b35 o35 [.int .i64 (z35.Kind), Str (z35.Key), .int .i64 (z35.V)], boxR b37 29 [.int .i64 (z35.Kind), Str (z35.Key), .int .i64 (z35.V)], T_table_Table_int_.obj F82_0 b82_0 p82, T_table_Table_int_.obj F82_p0 b9_0 y28] := hm83.callAZ hq82
                refine Rn.v rfl rfl rfl rfl (V.as rfl) (Rn.regEnd (Rn.seq (Rn.reg (Rn.v rfl rfl rfl rfl (V.mv rfl) (Rn.v rfl rfl rfl rfl (V.fa Try.underlying29 rfl Try.sizeOf9 rfl rfl) (Rn.v rfl rfl rfl rfl (V.ldB Try.isAgg9 rfl (hm86.get 3 rfl) rfl) ?_))))))
                obtain ⟨p87, e87, hM⟩ := bindE hM
                have hm88 : Hp Z0 No w w82 ([slR A1 c1 T_limnographlaw14_Act.rep x1, slR A25 c25 T_limnographref14_Thing.rep y24, rdR b35 o35 [.int .i64 (z35.Kind), Str (z35.Key), .int .i64 (z35.V)], boxR b37 29 [.int .i64 (z35.Kind), Str (z35.Key), .int .i64 (z35.V)], T_table_Table_int_.obj F82_p0 b9_0 y28] ++ [T_table_Table_int_.obj F82_0 b82_0 p82]) := hm86.pick [0, 1, 2, 3, 5, 4] rfl (by decide)
                refine Rn.cl ck12 rfl rfl rfl rfl (m_table_Table_int_Del_sim (Z0 := _) _ F82_0 b82_0 p82 z35.Key hm88.lend e87) ?_
                rintro _ w87 ⟨F87_p0, rfl, hq87⟩
                refine ⟨_, rfl, ?_⟩
                have hm90 : Hp Z0 No w w87 [slR A1 c1 T_limnographlaw14_Act.rep x1, slR A25 c25 T_limnographref14_Thing.rep y24, rdR b35 o35 [.int .i64 (z35.Kind), Str (z35.Key), .int .i64 (z35.V)], boxR b37 29 [.int .i64 (z35.Kind), Str (z35.Key), .int .i64 (z35.V)], T_table_Table_int_.obj F82_p0 b9_0 y28, T_table_Table_int_.obj F87_p0 b82_0 p87.2] := hm88.callAZ hq87
                refine Rn.regEnd (Rn.reg (Rn.v rfl rfl rfl rfl (V.mv rfl) (Rn.v rfl rfl rfl rfl (V.fa Try.underlying29 rfl Try.sizeOf3 rfl rfl) (Rn.v rfl rfl rfl rfl (V.ldB Try.isAgg3 rfl (hm90.get 3 rfl) rfl) ?_))))
                obtain ⟨p91, e91, hM⟩ := bindE hM
                have hm92 : Hp Z0 No w w87 ([slR A1 c1 T_limnographlaw14_Act.rep x1, slR A25 c25 T_limnographref14_Thing.rep y24, rdR b35 o35 [.int .i64 (z35.Kind), Str (z35.Key), .int .i64 (z35.V)], boxR b37 29 [.int .i64 (z35.Kind), Str (z35.Key), .int .i64 (z35.V)], T_table_Table_int_.obj F82_p0 b9_0 y28] ++ [T_table_Table_int_.obj F87_p0 b82_0 p87.2]) := hm90.pick [0, 1, 2, 3, 4, 5] rfl (by decide)
                refine Rn.cl ck11 rfl rfl rfl rfl (m_table_Table_int_Put_sim (Z0 := _) _ F87_p0 b82_0 p87.2 ([33] : List UInt8) z35.V hm92.lend e91) ?_
                rintro _ w91 ⟨F91_p0, rfl, hq91⟩
                refine ⟨_, rfl, ?_⟩
                have hm94 : Hp Z0 No w w91 [slR A1 c1 T_limnographlaw14_Act.rep x1, slR A25 c25 T_limnographref14_Thing.rep y24, rdR b35 o35 [.int .i64 (z35.Kind), Str (z35.Key), .int .i64 (z35.V)], boxR b37 29 [.int .i64 (z35.Kind), Str (z35.Key), .int .i64 (z35.V)], T_table_Table_int_.obj F82_p0 b9_0 y28, T_table_Table_int_.obj F91_p0 b82_0 p91.2] := hm92.callAZ hq91
                refine Rn.regEnd (Rn.inBlock ?_)
                have hm95 := hm94.dup 1 rfl (fun _ h => h)
                exact hk2 (y24, y28, A25, c25, F82_p0) _ _ (Sub.cons rfl (Sub.cons rfl (Sub.cons rfl (Sub.cons rfl (Sub.cons rfl (Sub.nil _)))))) (hm95.pick [0, 1, 2, 3, 6, 4] rfl (by decide)) hM
              · replace hM := iteF h81 hM
                refine Rn.skip (Rn.inBlock ?_)
                have hm97 := hm43.dup 1 rfl (fun _ h => h)
                exact hk2 (y24, y28, A25, c25, F28) _ _ (Sub.cons rfl (Sub.cons rfl (Sub.cons rfl (Sub.cons rfl (Sub.cons rfl (Sub.nil _)))))) (hm97.pick [0, 1, 3, 4, 5, 2] rfl (by decide)) hM
      · replace hM := iteF h34 hM
        refine Rn.exit rfl ?_
        exact hk1 (y24, y28, A25, c25, F28) _ _ (Sub.cons rfl (Sub.cons rfl (Sub.cons rfl (Sub.nil _)))) (hm33.pick [0, 1, 2] rfl (by decide)) hM

set_option maxRecDepth 20000 in
theorem m_limnographlaw14_TableOldest_sim {Z0 : Nat → Prop} (w : World) (A0 : Option Addr) (c0 : Nat) (x0 : (List T_limnographlaw14_Act)) {r : Bool} (f0 : (slR A0 c0 T_limnographlaw14_Act.rep x0).H Z0 w) (hM : m_limnographlaw14_TableOldest x0 = some r) :
    Calls Try.prog 4 #[.slice A0 (x0).length c0] w fun x w' => x = .returned (.bool (r)) ∧ Hp Z0 No w w' [] := by
  have hm0 := Hp.nil Z0 No w
  have hc0 := Calm.nil
  have hm2 := hm0.know (slR A0 c0 T_limnographlaw14_Act.rep x0) (fun _ h => h) (hm0.in0 hc0 f0)
  replace hc0 := hc0.snoc (r := slR A0 c0 T_limnographlaw14_Act.rep x0) (fun _ h => h)
  refine Rn.enter Try.func4 rfl rfl (Nat.le_of_ble_eq_true rfl) ?_
  refine Rn.seq (Rn.reg (Rn.v rfl rfl rfl rfl (V.as rfl) (Rn.regEnd (Rn.seq (Rn.seq (Rn.reg ?_))))))
  obtain ⟨p3, e3, hM⟩ := bindE hM
  refine Rn.cl ck5 rfl rfl rfl rfl (m_limnographlaw14_awake_sim (Z0 := All) _   e3) ?_
  rintro _ w3 ⟨rfl, hq3⟩
  refine ⟨_, rfl, ?_⟩
  have hm4 := hm2.call0 hq3
  refine Rn.v rfl rfl rfl rfl (V.notB rfl) (Rn.regEnd ?_)
  refine Rn.condS rfl (fun h5 => ?_) (fun h5 => ?_)
  · replace hM := iteT h5 hM
    refine Rn.seq (Rn.reg (Rn.v rfl rfl rfl rfl (V.as rfl) (Rn.regEnd ?_)))
    refine Rn.retG1 Try.func4 rfl (rvT rfl) ?_
    obtain rfl := someE hM
    exact ⟨rfl, hm4.pick [] rfl (by decide)⟩
  · replace hM := iteF (by rw [h5]; exact Bool.false_ne_true) hM
    refine Rn.skip (Rn.seq (Rn.seq (Rn.reg (Rn.v rfl rfl rfl rfl (V.mv rfl) ?_))))
    obtain ⟨p6, e6, hM⟩ := bindE hM
    refine Rn.cl ck6 rfl rfl rfl rfl (m_limnographlaw14_few_sim (Z0 := All) _ A0 c0 x0 (slR_all (hm4.get 0 rfl)) e6) ?_
    rintro _ w6 ⟨rfl, hq6⟩
    refine ⟨_, rfl, ?_⟩
    have hm7 := hm4.call0 hq6
    refine Rn.v rfl rfl rfl rfl (V.notB rfl) (Rn.regEnd ?_)
    refine Rn.condS rfl (fun h8 => ?_) (fun h8 => ?_)
    · replace hM := iteT h8 hM
      refine Rn.seq (Rn.reg (Rn.v rfl rfl rfl rfl (V.as rfl) (Rn.regEnd ?_)))
      refine Rn.retG1 Try.func4 rfl (rvT rfl) ?_
      obtain rfl := someE hM
      exact ⟨rfl, hm7.pick [] rfl (by decide)⟩
    · replace hM := iteF (by rw [h8]; exact Bool.false_ne_true) hM
      refine Rn.skip (Rn.seq (Rn.reg ?_))
      obtain ⟨p9, e9, hM⟩ := bindE hM
      refine Rn.cl ck7 rfl rfl rfl rfl (m_table_New_int_sim (Z0 := Zo Z0 No w [slR A0 c0 T_limnographlaw14_Act.rep x0]) _ 100  e9) ?_
      rintro _ w9 ⟨F9_0, b9_0, rfl, hq9⟩
      refine ⟨_, rfl, ?_⟩
      have hm11 : Hp Z0 No w w9 [slR A0 c0 T_limnographlaw14_Act.rep x0, T_table_Table_int_.obj F9_0 b9_0 p9] := hm7.callZ hq9
      refine Rn.v rfl rfl rfl rfl (V.as rfl) (Rn.regEnd (Rn.seq (Rn.reg (Rn.v rfl rfl rfl rfl (V.as rfl) (Rn.regEnd (Rn.seq (Rn.seq (Rn.reg (Rn.v rfl rfl rfl rfl (V.as rfl) (Rn.regEnd ?_))))))))))
      obtain ⟨j1, hj1, hM⟩ := jnE hM
      refine Rn.joinG (r := r) (G := (List (List UInt8)) × T_table_Table_int_ × Option Addr × Nat × (Nat → Prop)) (fun g => [(3, .pointer (some ⟨b9_0, 0, none⟩)), (4, .slice (g.2.2.1) ((g.1)).length (g.2.2.2.1))]) (fun g w' => Hp Z0 No w w' [slR A0 c0 T_limnographlaw14_Act.rep x0, ownR 9 (g.2.2.1) (g.2.2.2.1) textR (g.1), T_table_Table_int_.obj (g.2.2.2.2) b9_0 (g.2.1)]) (fun g => j1 g.1 g.2.1) ?_ ?_
      · subst hj1
        clear hM
        rintro ⟨y12, y15, A13, c13, F15⟩ w16 hm16 hM
        replace hm16 : Hp Z0 No w w16 [slR A0 c0 T_limnographlaw14_Act.rep x0, ownR 9 A13 c13 textR y12, T_table_Table_int_.obj F15 b9_0 y15] := hm16
        show Rn _ _ _ _ _ [(3, .pointer (some ⟨b9_0, 0, none⟩)), (4, .slice A13 (y12).length c13)] _
        try dsimp only at hM
        refine Rn.seq (Rn.reg (Rn.v rfl rfl rfl rfl (V.mv rfl) ?_))
        obtain ⟨p17, e17, hM⟩ := bindE hM
        have hm18 : Hp Z0 No w w16 ([slR A0 c0 T_limnographlaw14_Act.rep x0, ownR 9 A13 c13 textR y12] ++ [T_table_Table_int_.obj F15 b9_0 y15]) := hm16.pick [0, 1, 2] rfl (by decide)
        refine Rn.cl ck14 rfl rfl rfl rfl (m_table_Table_int_Clone_sim (Z0 := _) _ F15 b9_0 y15 hm18.lend e17) ?_
        rintro _ w17 ⟨F17_0, b17_0, F17_p0, rfl, hq17⟩
        refine ⟨_, rfl, ?_⟩
        have hm21 : Hp Z0 No w w17 [slR A0 c0 T_limnographlaw14_Act.rep x0, ownR 9 A13 c13 textR y12, T_table_Table_int_.obj F17_0 b17_0 p17, T_table_Table_int_.obj F17_p0 b9_0 y15] := hm18.callAZ hq17
        refine Rn.v rfl rfl rfl rfl (V.as rfl) (Rn.regEnd (Rn.seq (Rn.seq (Rn.reg (Rn.v rfl rfl rfl rfl (V.as rfl) (Rn.regEnd ?_))))))
        obtain ⟨j2, hj2, hM⟩ := jnE hM
        refine Rn.joinG (r := r) (G := T_table_Table_int_ × (Nat → Prop) × (Nat → Prop)) (fun g => [(3, .pointer (some ⟨b9_0, 0, none⟩)), (4, .slice A13 (y12).length c13), (8, .pointer (some ⟨b17_0, 0, none⟩))]) (fun g w' => Hp Z0 No w w' [slR A0 c0 T_limnographlaw14_Act.rep x0, ownR 9 A13 c13 textR y12, T_table_Table_int_.obj (g.2.1) b17_0 p17, T_table_Table_int_.obj (g.2.2) b9_0 (g.1)]) (fun g => j2 g.1) ?_ ?_
        · subst hj2
          clear hM
          rintro ⟨y23, F22, F23⟩ w24 hm24 hM
          replace hm24 : Hp Z0 No w w24 [slR A0 c0 T_limnographlaw14_Act.rep x0, ownR 9 A13 c13 textR y12, T_table_Table_int_.obj F22 b17_0 p17, T_table_Table_int_.obj F23 b9_0 y23] := hm24
          show Rn _ _ _ _ _ [(3, .pointer (some ⟨b9_0, 0, none⟩)), (4, .slice A13 (y12).length c13), (8, .pointer (some ⟨b17_0, 0, none⟩))] _
          try dsimp only at hM
          refine Rn.seq (Rn.reg (Rn.v rfl rfl rfl rfl (V.mv rfl) ?_))
          obtain ⟨p25, e25, hM⟩ := bindE hM
          refine Rn.cl ck17 rfl rfl rfl rfl (m_table_Table_int_Oldest_sim (Z0 := All) _ F23 b9_0 y23 (fz_all (hm24.get 3 rfl)) e25) ?_
          rintro _ w25 ⟨rfl, hq25⟩
          refine ⟨_, rfl, ?_⟩
          have hm26 := hm24.call0 hq25
          refine Rn.v rfl rfl rfl rfl (V.mv rfl) (Rn.v rfl rfl rfl rfl (V.ext rfl rfl) (Rn.v rfl rfl rfl rfl (V.ext rfl rfl) (Rn.v rfl rfl rfl rfl (V.as rfl) (Rn.v rfl rfl rfl rfl (V.as rfl) (Rn.regEnd (Rn.seq (Rn.reg (Rn.v rfl rfl rfl rfl (V.mv rfl) (Rn.v rfl rfl rfl rfl (V.notB rfl) (Rn.v rfl rfl rfl rfl (V.mv rfl) ?_))))))))))
          obtain ⟨j3, hj3, hM⟩ := jnE hM
          refine Rn.joinR (r := r) (G := Bool × (Nat → Prop) × (Nat → Prop)) [7, 8, 9, 10, 11, 12, 13, 14, 15, 16, 17, 18, 19, 20, 21, 22] (fun g => [(4, .slice A13 (y12).length c13), (8, .pointer (some ⟨b17_0, 0, none⟩)), (120, .bool ((g.1)))]) (fun g w' => Hp Z0 No w w' [slR A0 c0 T_limnographlaw14_Act.rep x0, ownR 9 A13 c13 textR y12, T_table_Table_int_.obj (g.2.1) b17_0 p17, T_table_Table_int_.obj (g.2.2) b9_0 y23]) (fun g => j3 g.1) ?_ ?_
          · subst hj3
            clear hM
            rintro ⟨y29, F27, F28⟩ w30 hm30 hM
            replace hm30 : Hp Z0 No w w30 [slR A0 c0 T_limnographlaw14_Act.rep x0, ownR 9 A13 c13 textR y12, T_table_Table_int_.obj F27 b17_0 p17, T_table_Table_int_.obj F28 b9_0 y23] := hm30
            show Rn _ _ _ _ _ [(4, .slice A13 (y12).length c13), (8, .pointer (some ⟨b17_0, 0, none⟩)), (120, .bool (y29))] _
            try dsimp only at hM
            refine Rn.v rfl rfl rfl rfl (V.mv rfl) ?_
            obtain ⟨j4, hj4, hM⟩ := jnE hM
            refine Rn.joinR (r := r) (G := Bool × (Nat → Prop) × (Nat → Prop)) [14, 15, 16, 17, 18, 19, 20, 21, 22] (fun g => [(4, .slice A13 (y12).length c13), (8, .pointer (some ⟨b17_0, 0, none⟩)), (127, .bool ((g.1)))]) (fun g w' => Hp Z0 No w w' [slR A0 c0 T_limnographlaw14_Act.rep x0, ownR 9 A13 c13 textR y12, T_table_Table_int_.obj (g.2.1) b17_0 p17, T_table_Table_int_.obj (g.2.2) b9_0 y23]) (fun g => j4 g.1) ?_ ?_
            · subst hj4
              clear hM
              rintro ⟨y33, F31, F32⟩ w34 hm34 hM
              replace hm34 : Hp Z0 No w w34 [slR A0 c0 T_limnographlaw14_Act.rep x0, ownR 9 A13 c13 textR y12, T_table_Table_int_.obj F31 b17_0 p17, T_table_Table_int_.obj F32 b9_0 y23] := hm34
              show Rn _ _ _ _ _ [(4, .slice A13 (y12).length c13), (8, .pointer (some ⟨b17_0, 0, none⟩)), (127, .bool (y33))] _
              try dsimp only at hM
              refine Rn.v rfl rfl rfl rfl (V.mv rfl) ?_
              obtain ⟨j5, hj5, hM⟩ := jnE hM
              refine Rn.joinR (r := r) (G := Bool × (Nat → Prop) × (Nat → Prop)) [22] (fun g => [(135, .bool ((g.1)))]) (fun g w' => Hp Z0 No w w' [slR A0 c0 T_limnographlaw14_Act.rep x0, ownR 9 A13 c13 textR y12, T_table_Table_int_.obj (g.2.1) b17_0 p17, T_table_Table_int_.obj (g.2.2) b9_0 y23]) (fun g => j5 g.1) ?_ ?_
              · subst hj5
                clear hM
                rintro ⟨y37, F35, F36⟩ w38 hm38 hM
                replace hm38 : Hp Z0 No w w38 [slR A0 c0 T_limnographlaw14_Act.rep x0, ownR 9 A13 c13 textR y12, T_table_Table_int_.obj F35 b17_0 p17, T_table_Table_int_.obj F36 b9_0 y23] := hm38
                show Rn _ _ _ _ _ [(135, .bool (y37))] _
                try dsimp only at hM
                refine Rn.v rfl rfl rfl rfl (V.as rfl) (Rn.regEnd ?_)
                refine Rn.retG1 Try.func4 rfl (rvT rfl) ?_
                obtain rfl := someE hM
                exact ⟨rfl, hm38.pick [] rfl (by decide)⟩
              intro hk5
              clear hj5
              refine Rn.part (t := 128) rfl (fun h39 => ?_) (fun h39 => ?_)
              · replace hM := iteT h39 hM
                refine Rn.v rfl rfl rfl rfl (V.mv rfl) ?_
                obtain ⟨p40, e40, hM⟩ := bindE hM
                refine Rn.cl ck18 rfl rfl rfl rfl (m_table_Table_int_Keys_sim (Z0 := All) _ F31 b17_0 p17 (fz_all (hm34.get 2 rfl)) e40) ?_
                rintro _ w40 ⟨A40_0_0, c40_0_0, rfl, hq40⟩
                refine ⟨_, rfl, ?_⟩
                have hm42 : Hp Z0 No w w40 [slR A0 c0 T_limnographlaw14_Act.rep x0, ownR 9 A13 c13 textR y12, T_table_Table_int_.obj F31 b17_0 p17, T_table_Table_int_.obj F32 b9_0 y23, ownR 9 A40_0_0 c40_0_0 textR p40] := hm34.callF (flC (ownR_flat text_flat _ _ _ _) fl0) hq40
                refine Rn.v rfl rfl rfl rfl (V.lenV Try.underlying42 rfl) (Rn.v rfl rfl rfl rfl (V.mv rfl) (Rn.v rfl rfl rfl rfl (V.lenV Try.underlying42 rfl) (Rn.v rfl rfl rfl rfl (V.eql rfl rfl) (Rn.v rfl rfl rfl rfl (V.pkT rfl rfl) ?_))))
                exact hk5 ((decide ((p40.length : Int) = (y12.length : Int))), F31, F32) _ _ (Sub.cons rfl (Sub.nil _)) (hm42.pick [0, 1, 2, 3] rfl (by decide)) hM
              · replace hM := iteF (by rw [h39]; exact Bool.false_ne_true) hM
                refine Rn.no rfl rfl rfl rfl (Rn.no rfl rfl rfl rfl (Rn.no rfl rfl rfl rfl (Rn.no rfl rfl rfl rfl (Rn.no rfl rfl rfl rfl (Rn.no rfl rfl rfl rfl (Rn.v rfl rfl rfl rfl (V.pkF rfl rfl) ?_))))))
                exact hk5 (false, F31, F32) _ _ (Sub.cons rfl (Sub.nil _)) (hm34.pick [0, 1, 2, 3] rfl (by decide)) hM
            intro hk4
            clear hj4
            refine Rn.part (t := 121) rfl (fun h43 => ?_) (fun h43 => ?_)
            · replace hM := iteT h43 hM
              refine Rn.v rfl rfl rfl rfl (V.mv rfl) ?_
              obtain ⟨p44, e44, hM⟩ := bindE hM
              refine Rn.cl ck16 rfl rfl rfl rfl (m_table_Table_int_Len_sim (Z0 := All) _ F27 b17_0 p17 (fz_all (hm30.get 2 rfl)) e44) ?_
              rintro _ w44 ⟨rfl, hq44⟩
              refine ⟨_, rfl, ?_⟩
              have hm45 := hm30.call0 hq44
              refine Rn.v rfl rfl rfl rfl (V.mv rfl) (Rn.v rfl rfl rfl rfl (V.lenV Try.underlying42 rfl) (Rn.v rfl rfl rfl rfl (V.eql rfl rfl) (Rn.v rfl rfl rfl rfl (V.pkT rfl rfl) ?_)))
              exact hk4 ((decide (p44 = (y12.length : Int))), F27, F28) _ _ (Sub.cons rfl (Sub.cons rfl (Sub.cons rfl (Sub.nil _)))) (hm45.pick [0, 1, 2, 3] rfl (by decide)) hM
            · replace hM := iteF (by rw [h43]; exact Bool.false_ne_true) hM
              refine Rn.no rfl rfl rfl rfl (Rn.no rfl rfl rfl rfl (Rn.no rfl rfl rfl rfl (Rn.no rfl rfl rfl rfl (Rn.no rfl rfl rfl rfl (Rn.v rfl rfl rfl rfl (V.pkF rfl rfl) ?_)))))
              exact hk4 (false, F27, F28) _ _ (Sub.cons rfl (Sub.cons rfl (Sub.cons rfl (Sub.nil _)))) (hm30.pick [0, 1, 2, 3] rfl (by decide)) hM
          intro hk3
          clear hj3
          refine Rn.part (t := 116) rfl (fun h46 => ?_) (fun h46 => ?_)
          · replace hM := iteT h46 hM
            refine Rn.v rfl rfl rfl rfl (V.mv rfl) ?_
            obtain ⟨p47, e47, hM⟩ := bindE hM
            refine Rn.cl ck16 rfl rfl rfl rfl (m_table_Table_int_Len_sim (Z0 := All) _ F23 b9_0 y23 (fz_all (hm26.get 3 rfl)) e47) ?_
            rintro _ w47 ⟨rfl, hq47⟩
            refine ⟨_, rfl, ?_⟩
            have hm48 := hm26.call0 hq47
            refine Rn.v rfl rfl rfl rfl (V.eql rfl rfl) (Rn.v rfl rfl rfl rfl (V.pkT rfl rfl) ?_)
            exact hk3 ((decide (p47 = 0)), F22, F23) _ _ (Sub.cons rfl (Sub.cons rfl (Sub.cons rfl (Sub.nil _)))) (hm48.pick [0, 1, 2, 3] rfl (by decide)) hM
          · replace hM := iteF (by rw [h46]; exact Bool.false_ne_true) hM
            refine Rn.no rfl rfl rfl rfl (Rn.no rfl rfl rfl rfl (Rn.no rfl rfl rfl rfl (Rn.v rfl rfl rfl rfl (V.pkF rfl rfl) ?_)))
            exact hk3 (false, F22, F23) _ _ (Sub.cons rfl (Sub.cons rfl (Sub.cons rfl (Sub.nil _)))) (hm26.pick [0, 1, 2, 3] rfl (by decide)) hM
        intro hk2
        clear hj2
        refine Rn.block ?_
        refine Rn.loopF (G := Int × T_table_Table_int_ × (Nat → Prop) × (Nat → Prop)) (fun g => [(3, .pointer (some ⟨b9_0, 0, none⟩)), (4, .slice A13 (y12).length c13), (8, .pointer (some ⟨b17_0, 0, none⟩)), (9, .int .i64 ((g.1)))]) (fun g w' => Hp Z0 No w w' [slR A0 c0 T_limnographlaw14_Act.rep x0, ownR 9 A13 c13 textR y12, T_table_Table_int_.obj (g.2.2.1) b17_0 p17, T_table_Table_int_.obj (g.2.2.2) b9_0 (g.2.1)]) (fun n g => m_limnographlaw14_TableOldest_L1 y12 j2 n g.1 g.2.1) fuel (0, y15, F17_0, F17_p0) (Sub.cons rfl (Sub.cons rfl (Sub.cons rfl (Sub.cons rfl (Sub.nil _))))) (hm21.pick [0, 1, 2, 3] rfl (by decide)) hM (fun _ => rfl) ?_
        clear hM
        rintro m52 ⟨y50, y51, F49, F51⟩ w52 hm52 hM hn52
        replace hm52 : Hp Z0 No w w52 [slR A0 c0 T_limnographlaw14_Act.rep x0, ownR 9 A13 c13 textR y12, T_table_Table_int_.obj F49 b17_0 p17, T_table_Table_int_.obj F51 b9_0 y51] := hm52
        show Rn _ _ _ _ _ [(3, .pointer (some ⟨b9_0, 0, none⟩)), (4, .slice A13 (y12).length c13), (8, .pointer (some ⟨b17_0, 0, none⟩)), (9, .int .i64 (y50))] _
        replace hM : m_limnographlaw14_TableOldest_L1 y12 j2 (m52 + 1) y50 y51 = some r := hM
        rw [m_limnographlaw14_TableOldest_L1] at hM
        refine Rn.seq (Rn.seq (Rn.reg (Rn.v rfl rfl rfl rfl (V.mv rfl) (Rn.v rfl rfl rfl rfl (V.mv rfl) (Rn.v rfl rfl rfl rfl (V.lenV Try.underlying42 rfl) (Rn.v rfl rfl rfl rfl (V.lss rfl rfl) (Rn.regEnd ?_)))))))
        refine Rn.condD rfl (fun h53 => ?_) (fun h53 => ?_)
        · replace hM := iteT h53 hM
          refine Rn.skip (Rn.seq (Rn.block (Rn.seq (Rn.reg (Rn.v rfl rfl rfl rfl (V.mv rfl) ?_)))))
          obtain ⟨p54, e54, hM⟩ := bindE hM
          refine Rn.cl ck17 rfl rfl rfl rfl (m_table_Table_int_Oldest_sim (Z0 := All) _ F51 b9_0 y51 (fz_all (hm52.get 3 rfl)) e54) ?_
          rintro _ w54 ⟨rfl, hq54⟩
          refine ⟨_, rfl, ?_⟩
          have hm55 := hm52.call0 hq54
          refine Rn.v rfl rfl rfl rfl (V.mv rfl) (Rn.v rfl rfl rfl rfl (V.ext rfl rfl) (Rn.v rfl rfl rfl rfl (V.ext rfl rfl) (Rn.v rfl rfl rfl rfl (V.as rfl) (Rn.v rfl rfl rfl rfl (V.as rfl) (Rn.regEnd (Rn.seq (Rn.reg (Rn.v rfl rfl rfl rfl (V.mv rfl) (Rn.v rfl rfl rfl rfl (V.mv rfl) (Rn.v rfl rfl rfl rfl (V.mv rfl) ?_))))))))))
          obtain ⟨z56, e56, hM⟩ := bindE hM
          obtain ⟨kk56, ke56, kz56, kl56⟩ := idxE e56
          obtain ⟨g56, vs56, hA56, hR56, hrel56⟩ := hm55.ownAt 1 rfl kz56
          subst hA56
          obtain ⟨rfl, _⟩ := hrel56
          refine Rn.v rfl rfl rfl rfl (V.ixE kk56 Try.underlying42 Try.sizeOf9 rfl rfl ke56 kl56) (Rn.v rfl rfl rfl rfl (V.ldR0 Try.isAgg9 rfl hR56 rfl) (Rn.v rfl rfl rfl rfl (V.neqS rfl rfl) (Rn.v rfl rfl rfl rfl (V.mv rfl) ?_)))
          refine Rn.cutR [10, 11, 12, 13, 14, 15, 16, 17, 18, 19, 20, 21, 22, 23, 24, 25, 26, 27, 28, 29] [(3, .pointer (some ⟨b9_0, 0, none⟩)), (4, .slice (some ⟨g56, 0, none⟩) (y12).length c13), (8, .pointer (some ⟨b17_0, 0, none⟩)), (9, .int .i64 (y50)), (10, Str (p54.1)), (88, .bool (decide ((p54.1 ≠ z56) ∨ ((!p54.2) = true))))] (fun hk57 => ?_) ?_
          · refine Rn.partD (t := 85) rfl (fun h58 => ?_) (fun h58 => ?_)
            · refine Rn.no rfl rfl rfl rfl (Rn.no rfl rfl rfl rfl (Rn.v rfl rfl rfl rfl (V.pkT rfl rfl) ?_))
              refine hk57 _ ?_
              exact Sub.cons rfl (Sub.cons rfl (Sub.cons rfl (Sub.cons rfl (Sub.cons rfl (Sub.cons (lkv _ rfl (by first | exact andT h58 | exact andF h58 | exact orT h58 | exact orF h58 | exact nandF h58 | exact nandT h58 | exact norT h58 | exact norF h58 | (simp [h58]; done) | grind)) (Sub.nil _))))))
            · refine Rn.v rfl rfl rfl rfl (V.mv rfl) (Rn.v rfl rfl rfl rfl (V.notB rfl) (Rn.v rfl rfl rfl rfl (V.pkF rfl rfl) ?_))
              refine hk57 _ ?_
              exact Sub.cons rfl (Sub.cons rfl (Sub.cons rfl (Sub.cons rfl (Sub.cons rfl (Sub.cons (lkv _ rfl (by first | exact andT h58 | exact andF h58 | exact orT h58 | exact orF h58 | exact nandF h58 | exact nandT h58 | exact norT h58 | exact norF h58 | (simp [h58]; done) | grind)) (Sub.nil _))))))
          refine Rn.v rfl rfl rfl rfl (V.mv rfl) ?_
          obtain ⟨j6, hj6, hM⟩ := jnE hM
          refine Rn.joinR (r := r) (G := Bool × (Nat → Prop) × (Nat → Prop)) [19, 20, 21, 22, 23, 24, 25, 26, 27, 28, 29] (fun g => [(3, .pointer (some ⟨b9_0, 0, none⟩)), (4, .slice (some ⟨g56, 0, none⟩) (y12).length c13), (8, .pointer (some ⟨b17_0, 0, none⟩)), (9, .int .i64 (y50)), (10, Str (p54.1)), (97, .bool ((g.1)))]) (fun g w' => Hp Z0 No w w' [slR A0 c0 T_limnographlaw14_Act.rep x0, ownR 9 (some ⟨g56, 0, none⟩) c13 textR y12, T_table_Table_int_.obj (g.2.1) b17_0 p17, T_table_Table_int_.obj (g.2.2) b9_0 y51]) (fun g => j6 g.1) ?_ ?_
          · subst hj6
            clear hM
            rintro ⟨y61, F59, F60⟩ w62 hm62 hM
            replace hm62 : Hp Z0 No w w62 [slR A0 c0 T_limnographlaw14_Act.rep x0, ownR 9 (some ⟨g56, 0, none⟩) c13 textR y12, T_table_Table_int_.obj F59 b17_0 p17, T_table_Table_int_.obj F60 b9_0 y51] := hm62
            show Rn _ _ _ _ _ [(3, .pointer (some ⟨b9_0, 0, none⟩)), (4, .slice (some ⟨g56, 0, none⟩) (y12).length c13), (8, .pointer (some ⟨b17_0, 0, none⟩)), (9, .int .i64 (y50)), (10, Str (p54.1)), (97, .bool (y61))] _
            try dsimp only at hM
            refine Rn.v rfl rfl rfl rfl (V.mv rfl) ?_
            obtain ⟨j7, hj7, hM⟩ := jnE hM
            refine Rn.joinR (r := r) (G := Bool × T_table_Table_int_ × (Nat → Prop) × (Nat → Prop)) [25, 26, 27, 28, 29] (fun g => [(3, .pointer (some ⟨b9_0, 0, none⟩)), (4, .slice (some ⟨g56, 0, none⟩) (y12).length c13), (8, .pointer (some ⟨b17_0, 0, none⟩)), (9, .int .i64 (y50)), (10, Str (p54.1)), (103, .bool ((g.1)))]) (fun g w' => Hp Z0 No w w' [slR A0 c0 T_limnographlaw14_Act.rep x0, ownR 9 (some ⟨g56, 0, none⟩) c13 textR y12, T_table_Table_int_.obj (g.2.2.1) b17_0 p17, T_table_Table_int_.obj (g.2.2.2) b9_0 (g.2.1)]) (fun g => j7 g.1 g.2.1) ?_ ?_
            · subst hj7
              clear hM
              rintro ⟨y64, y65, F63, F65⟩ w66 hm66 hM
              replace hm66 : Hp Z0 No w w66 [slR A0 c0 T_limnographlaw14_Act.rep x0, ownR 9 (some ⟨g56, 0, none⟩) c13 textR y12, T_table_Table_int_.obj F63 b17_0 p17, T_table_Table_int_.obj F65 b9_0 y65] := hm66
              show Rn _ _ _ _ _ [(3, .pointer (some ⟨b9_0, 0, none⟩)), (4, .slice (some ⟨g56, 0, none⟩) (y12).length c13), (8, .pointer (some ⟨b17_0, 0, none⟩)), (9, .int .i64 (y50)), (10, Str (p54.1)), (103, .bool (y64))] _
              try dsimp only at hM
              refine Rn.v rfl rfl rfl rfl (V.mv rfl) ?_
              obtain ⟨j8, hj8, hM⟩ := jnE hM
              refine Rn.joinR (r := r) (G := Bool × T_table_Table_int_ × (Nat → Prop) × (Nat → Prop)) [] (fun g => [(3, .pointer (some ⟨b9_0, 0, none⟩)), (4, .slice (some ⟨g56, 0, none⟩) (y12).length c13), (8, .pointer (some ⟨b17_0, 0, none⟩)), (9, .int .i64 (y50)), (108, .bool ((g.1)))]) (fun g w' => Hp Z0 No w w' [slR A0 c0 T_limnographlaw14_Act.rep x0, ownR 9 (some ⟨g56, 0, none⟩) c13 textR y12, T_table_Table_int_.obj (g.2.2.1) b17_0 p17, T_table_Table_int_.obj (g.2.2.2) b9_0 (g.2.1)]) (fun g => j8 g.1 g.2.1) ?_ ?_
              · subst hj8
                clear hM
                rintro ⟨y68, y69, F67, F69⟩ w70 hm70 hM
                replace hm70 : Hp Z0 No w w70 [slR A0 c0 T_limnographlaw14_Act.rep x0, ownR 9 (some ⟨g56, 0, none⟩) c13 textR y12, T_table_Table_int_.obj F67 b17_0 p17, T_table_Table_int_.obj F69 b9_0 y69] := hm70
                show Rn _ _ _ _ _ [(3, .pointer (some ⟨b9_0, 0, none⟩)), (4, .slice (some ⟨g56, 0, none⟩) (y12).length c13), (8, .pointer (some ⟨b17_0, 0, none⟩)), (9, .int .i64 (y50)), (108, .bool (y68))] _
                try dsimp only at hM
                refine Rn.regEnd ?_
                refine Rn.condS rfl (fun h71 => ?_) (fun h71 => ?_)
                · replace hM := iteT h71 hM
                  refine Rn.seq (Rn.reg (Rn.v rfl rfl rfl rfl (V.as rfl) (Rn.regEnd ?_)))
                  refine Rn.retG1 Try.func4 rfl (rvT rfl) ?_
                  obtain rfl := someE hM
                  exact ⟨rfl, hm70.pick [] rfl (by decide)⟩
                · replace hM := iteF (by rw [h71]; exact Bool.false_ne_true) hM
                  refine Rn.skip (Rn.inBlock (Rn.reg (Rn.v rfl rfl rfl rfl (V.mv rfl) (Rn.v rfl rfl rfl rfl (V.addW rfl rfl) (Rn.v rfl rfl rfl rfl (V.as rfl) (Rn.regEnd ?_))))))
                  exact hn52 ((W64 (y50 + 1)), y69, F67, F69) _ _ (Sub.cons rfl (Sub.cons rfl (Sub.cons rfl (Sub.cons rfl (Sub.nil _))))) (hm70.pick [0, 1, 2, 3] rfl (by decide)) hM
              intro hk8
              clear hj8
              refine Rn.part (t := 104) rfl (fun h72 => ?_) (fun h72 => ?_)
              · replace hM := iteT h72 hM
                refine Rn.no rfl rfl rfl rfl (Rn.no rfl rfl rfl rfl (Rn.no rfl rfl rfl rfl (Rn.v rfl rfl rfl rfl (V.pkT rfl rfl) ?_)))
                exact hk8 (true, y65, F63, F65) _ _ (Sub.cons rfl (Sub.cons rfl (Sub.cons rfl (Sub.cons rfl (Sub.cons rfl (Sub.nil _)))))) (hm66.pick [0, 1, 2, 3] rfl (by decide)) hM
              · replace hM := iteF (by rw [h72]; exact Bool.false_ne_true) hM
                refine Rn.v rfl rfl rfl rfl (V.mv rfl) (Rn.v rfl rfl rfl rfl (V.mv rfl) ?_)
                obtain ⟨p73, e73, hM⟩ := bindE hM
                have hm74 : Hp Z0 No w w66 ([slR A0 c0 T_limnographlaw14_Act.rep x0, ownR 9 (some ⟨g56, 0, none⟩) c13 textR y12, T_table_Table_int_.obj F63 b17_0 p17] ++ [T_table_Table_int_.obj F65 b9_0 y65]) := hm66.pick [0, 1, 2, 3] rfl (by decide)
                refine Rn.cl ck12 rfl rfl rfl rfl (m_table_Table_int_Del_sim (Z0 := _) _ F65 b9_0 y65 p54.1 hm74.lend e73) ?_
                rintro _ w73 ⟨F73_p0, rfl, hq73⟩
                refine ⟨_, rfl, ?_⟩
                have hm76 : Hp Z0 No w w73 [slR A0 c0 T_limnographlaw14_Act.rep x0, ownR 9 (some ⟨g56, 0, none⟩) c13 textR y12, T_table_Table_int_.obj F63 b17_0 p17, T_table_Table_int_.obj F73_p0 b9_0 p73.2] := hm74.callAZ hq73
                refine Rn.v rfl rfl rfl rfl (V.pkF rfl rfl) ?_
                exact hk8 (p73.1, p73.2, F63, F73_p0) _ _ (Sub.cons rfl (Sub.cons rfl (Sub.cons rfl (Sub.cons rfl (Sub.cons rfl (Sub.nil _)))))) (hm76.pick [0, 1, 2, 3] rfl (by decide)) hM
            intro hk7
            clear hj7
            refine Rn.part (t := 98) rfl (fun h77 => ?_) (fun h77 => ?_)
            · replace hM := iteT h77 hM
              refine Rn.no rfl rfl rfl rfl (Rn.no rfl rfl rfl rfl (Rn.no rfl rfl rfl rfl (Rn.no rfl rfl rfl rfl (Rn.v rfl rfl rfl rfl (V.pkT rfl rfl) ?_))))
              exact hk7 (true, y51, F59, F60) _ _ (Sub.cons rfl (Sub.cons rfl (Sub.cons rfl (Sub.cons rfl (Sub.cons rfl (Sub.cons rfl (Sub.nil _))))))) (hm62.pick [0, 1, 2, 3] rfl (by decide)) hM
            · replace hM := iteF (by rw [h77]; exact Bool.false_ne_true) hM
              refine Rn.v rfl rfl rfl rfl (V.mv rfl) (Rn.v rfl rfl rfl rfl (V.mv rfl) ?_)
              obtain ⟨p78, e78, hM⟩ := bindE hM
              have hm79 : Hp Z0 No w w62 ([slR A0 c0 T_limnographlaw14_Act.rep x0, ownR 9 (some ⟨g56, 0, none⟩) c13 textR y12, T_table_Table_int_.obj F59 b17_0 p17] ++ [T_table_Table_int_.obj F60 b9_0 y51]) := hm62.pick [0, 1, 2, 3] rfl (by decide)
              refine Rn.cl ck12 rfl rfl rfl rfl (m_table_Table_int_Del_sim (Z0 := _) _ F60 b9_0 y51 p54.1 hm79.lend e78) ?_
              rintro _ w78 ⟨F78_p0, rfl, hq78⟩
              refine ⟨_, rfl, ?_⟩
              have hm81 : Hp Z0 No w w78 [slR A0 c0 T_limnographlaw14_Act.rep x0, ownR 9 (some ⟨g56, 0, none⟩) c13 textR y12, T_table_Table_int_.obj F59 b17_0 p17, T_table_Table_int_.obj F78_p0 b9_0 p78.2] := hm79.callAZ hq78
              refine Rn.v rfl rfl rfl rfl (V.notB rfl) (Rn.v rfl rfl rfl rfl (V.pkF rfl rfl) ?_)
              exact hk7 ((!p78.1), p78.2, F59, F78_p0) _ _ (Sub.cons rfl (Sub.cons rfl (Sub.cons rfl (Sub.cons rfl (Sub.cons rfl (Sub.cons rfl (Sub.nil _))))))) (hm81.pick [0, 1, 2, 3] rfl (by decide)) hM
          intro hk6
          clear hj6
          refine Rn.partD (t := 89) rfl (fun h82 => ?_) (fun h82 => ?_)
          · replace hM := iteT h82 hM
            refine Rn.no rfl rfl rfl rfl (Rn.no rfl rfl rfl rfl (Rn.no rfl rfl rfl rfl (Rn.no rfl rfl rfl rfl (Rn.no rfl rfl rfl rfl (Rn.no rfl rfl rfl rfl (Rn.no rfl rfl rfl rfl (Rn.v rfl rfl rfl rfl (V.pkT rfl rfl) ?_)))))))
            exact hk6 (true, F49, F51) _ _ (Sub.cons rfl (Sub.cons rfl (Sub.cons rfl (Sub.cons rfl (Sub.cons rfl (Sub.cons rfl (Sub.nil _))))))) (hm55.pick [0, 1, 2, 3] rfl (by decide)) hM
          · replace hM := iteF h82 hM
            refine Rn.v rfl rfl rfl rfl (V.mv rfl) ?_
            obtain ⟨p83, e83, hM⟩ := bindE hM
            refine Rn.cl ck16 rfl rfl rfl rfl (m_table_Table_int_Len_sim (Z0 := All) _ F51 b9_0 y51 (fz_all (hm55.get 3 rfl)) e83) ?_
            rintro _ w83 ⟨rfl, hq83⟩
            refine ⟨_, rfl, ?_⟩
            have hm84 := hm55.call0 hq83
            refine Rn.v rfl rfl rfl rfl (V.mv rfl) (Rn.v rfl rfl rfl rfl (V.lenV Try.underlying42 rfl) (Rn.v rfl rfl rfl rfl (V.mv rfl) (Rn.v rfl rfl rfl rfl (V.subW rfl rfl) (Rn.v rfl rfl rfl rfl (V.neq rfl rfl) (Rn.v rfl rfl rfl rfl (V.pkF rfl rfl) ?_)))))
            exact hk6 ((decide (p83 ≠ W64 ((y12.length : Int) - y50))), F49, F51) _ _ (Sub.cons rfl (Sub.cons rfl (Sub.cons rfl (Sub.cons rfl (Sub.cons rfl (Sub.cons rfl (Sub.nil _))))))) (hm84.pick [0, 1, 2, 3] rfl (by decide)) hM
        · replace hM := iteF h53 hM
          refine Rn.exit rfl ?_
          exact hk2 (y51, F49, F51) _ _ (Sub.cons rfl (Sub.cons rfl (Sub.cons rfl (Sub.nil _)))) (hm52.pick [0, 1, 2, 3] rfl (by decide)) hM
      intro hk1
      clear hj1
      refine Rn.block ?_
      have hm90 := hm11.addNil 9 textR
      refine Rn.loopF (G := (List (List UInt8)) × Int × T_table_Table_int_ × Option Addr × Nat × (Nat → Prop)) (fun g => [(0, .slice A0 (x0).length c0), (3, .pointer (some ⟨b9_0, 0, none⟩)), (4, .slice (g.2.2.2.1) ((g.1)).length (g.2.2.2.2.1)), (5, .int .i64 ((g.2.1)))]) (fun g w' => Hp Z0 No w w' [slR A0 c0 T_limnographlaw14_Act.rep x0, ownR 9 (g.2.2.2.1) (g.2.2.2.2.1) textR (g.1), T_table_Table_int_.obj (g.2.2.2.2.2) b9_0 (g.2.2.1)]) (fun n g => m_limnographlaw14_TableOldest_L2 x0 j1 n g.1 g.2.1 g.2.2.1) fuel (([] : List (List UInt8)), 0, p9, none, 0, F9_0) (Sub.cons rfl (Sub.cons rfl (Sub.cons rfl (Sub.cons rfl (Sub.nil _))))) (hm90.pick [0, 2, 1] rfl (by decide)) hM (fun _ => rfl) ?_
      clear hM
      rintro m92 ⟨y85, y88, y89, A86, c86, F89⟩ w92 hm92 hM hn92
      replace hm92 : Hp Z0 No w w92 [slR A0 c0 T_limnographlaw14_Act.rep x0, ownR 9 A86 c86 textR y85, T_table_Table_int_.obj F89 b9_0 y89] := hm92
      show Rn _ _ _ _ _ [(0, .slice A0 (x0).length c0), (3, .pointer (some ⟨b9_0, 0, none⟩)), (4, .slice A86 (y85).length c86), (5, .int .i64 (y88))] _
      replace hM : m_limnographlaw14_TableOldest_L2 x0 j1 (m92 + 1) y85 y88 y89 = some r := hM
      rw [m_limnographlaw14_TableOldest_L2] at hM
      refine Rn.seq (Rn.seq (Rn.reg (Rn.v rfl rfl rfl rfl (V.mv rfl) (Rn.v rfl rfl rfl rfl (V.mv rfl) (Rn.v rfl rfl rfl rfl (V.lenV Try.underlying22 rfl) (Rn.v rfl rfl rfl rfl (V.lss rfl rfl) (Rn.regEnd ?_)))))))
      refine Rn.condD rfl (fun h93 => ?_) (fun h93 => ?_)
      · replace hM := iteT h93 hM
        refine Rn.skip (Rn.seq (Rn.block (Rn.seq (Rn.seq (Rn.reg (Rn.v rfl rfl rfl rfl (V.mv rfl) (Rn.v rfl rfl rfl rfl (V.mv rfl) (Rn.v rfl rfl rfl rfl (V.mv rfl) ?_))))))))
        obtain ⟨z94, e94, hM⟩ := bindE hM
        refine Rn.ixH hm92 0 rfl e94 rfl rfl rfl Try.underlying22 Try.sizeOf29 rfl rfl rfl rfl ?_
        rintro b94 o94 vs94 ⟨_, _, rfl, ⟨rfl, _⟩, ⟨_, _, rfl, ⟨rfl, _⟩, ⟨rfl, _⟩⟩⟩ hm94
        refine Rn.v rfl rfl rfl rfl (V.fa Try.underlying29 rfl Try.sizeOf9 rfl rfl) (Rn.v rfl rfl rfl rfl (V.ldR Try.isAgg9 rfl (hm94.get 3 rfl).2 rfl) (Rn.v rfl rfl rfl rfl (V.mv rfl) ?_))
        obtain ⟨p96, e96, hM⟩ := bindE hM
        have hm97 : Hp Z0 No w w92 ([slR A0 c0 T_limnographlaw14_Act.rep x0, ownR 9 A86 c86 textR y85, rdR b94 o94 [.int .i64 (z94.Kind), Str (z94.Key), .int .i64 (z94.V)]] ++ [T_table_Table_int_.obj F89 b9_0 y89]) := hm94.pick [0, 1, 3, 2] rfl (by decide)
        refine Rn.cl ck11 rfl rfl rfl rfl (m_table_Table_int_Put_sim (Z0 := _) _ F89 b9_0 y89 z94.Key y88 hm97.lend e96) ?_
        rintro _ w96 ⟨F96_p0, rfl, hq96⟩
        refine ⟨_, rfl, ?_⟩
        have hm99 : Hp Z0 No w w96 [slR A0 c0 T_limnographlaw14_Act.rep x0, ownR 9 A86 c86 textR y85, rdR b94 o94 [.int .i64 (z94.Kind), Str (z94.Key), .int .i64 (z94.V)], T_table_Table_int_.obj F96_p0 b9_0 p96.2] := hm97.callAZ hq96
        refine Rn.v rfl rfl rfl rfl (V.notB rfl) (Rn.regEnd ?_)
        refine Rn.condS rfl (fun h100 => ?_) (fun h100 => ?_)
        · replace hM := iteT h100 hM
          refine Rn.seq (Rn.reg (Rn.v rfl rfl rfl rfl (V.as rfl) (Rn.regEnd ?_)))
          refine Rn.retG1 Try.func4 rfl (rvT rfl) ?_
          obtain rfl := someE hM
          exact ⟨rfl, hm99.pick [] rfl (by decide)⟩
        · replace hM := iteF (by rw [h100]; exact Bool.false_ne_true) hM
          refine Rn.skip (Rn.seq (Rn.reg (Rn.v rfl rfl rfl rfl (V.as rfl) (Rn.regEnd (Rn.seq (Rn.seq (Rn.reg (Rn.v rfl rfl rfl rfl (V.as rfl) (Rn.regEnd ?_)))))))))
          obtain ⟨j9, hj9, hM⟩ := jnE hM
          refine Rn.joinG (r := r) (G := (List (List UInt8)) × (Nat → Prop) × Option Addr × Nat) (fun g => [(0, .slice A0 (x0).length c0), (3, .pointer (some ⟨b9_0, 0, none⟩)), (5, .int .i64 (y88)), (6, .slice (g.2.2.1) ((g.1)).length (g.2.2.2))]) (fun g w' => Hp Z0 No w w' [slR A0 c0 T_limnographlaw14_Act.rep x0, ownR 9 A86 c86 textR y85, rdR b94 o94 [.int .i64 (z94.Kind), Str (z94.Key), .int .i64 (z94.V)], T_table_Table_int_.obj (g.2.1) b9_0 p96.2, ownR 9 (g.2.2.1) (g.2.2.2) textR (g.1)]) (fun g => j9 g.1) ?_ ?_
          · subst hj9
            clear hM
            rintro ⟨y102, F101, A103, c103⟩ w105 hm105 hM
            replace hm105 : Hp Z0 No w w105 [slR A0 c0 T_limnographlaw14_Act.rep x0, ownR 9 A86 c86 textR y85, rdR b94 o94 [.int .i64 (z94.Kind), Str (z94.Key), .int .i64 (z94.V)], T_table_Table_int_.obj F101 b9_0 p96.2, ownR 9 A103 c103 textR y102] := hm105
            show Rn _ _ _ _ _ [(0, .slice A0 (x0).length c0), (3, .pointer (some ⟨b9_0, 0, none⟩)), (5, .int .i64 (y88)), (6, .slice A103 (y102).length c103)] _
            try dsimp only at hM
            refine Rn.reg (Rn.v rfl rfl rfl rfl (V.mv rfl) (Rn.v rfl rfl rfl rfl (V.mv rfl) (Rn.v rfl rfl rfl rfl (V.mv rfl) ?_)))
            obtain ⟨z106, e106, hM⟩ := bindE hM
            refine Rn.ixH hm105 0 rfl e106 rfl rfl rfl Try.underlying22 Try.sizeOf29 rfl rfl rfl rfl ?_
            rintro b106 o106 vs106 ⟨_, _, rfl, ⟨rfl, _⟩, ⟨_, _, rfl, ⟨rfl, _⟩, ⟨rfl, _⟩⟩⟩ hm106
            refine Rn.v rfl rfl rfl rfl (V.fa Try.underlying29 rfl Try.sizeOf9 rfl rfl) (Rn.v rfl rfl rfl rfl (V.ldR Try.isAgg9 rfl (hm106.get 5 rfl).2 rfl) ?_)
            obtain ⟨z108, e108, hM⟩ := bindE hM
            refine Rn.pushH (z := z106.Key) (vs := [Str (z106.Key)]) hm106 4 rfl e108 rfl rfl rfl rfl Try.underlying42 el9 rfl rfl rfl rfl (fun _ => rfl) (⟨rfl, trivial⟩) ?_
            intro A108 c108 w108 u108 hm108
            refine Rn.v rfl rfl rfl rfl (V.as rfl) (Rn.regEnd (Rn.inBlock (Rn.reg (Rn.v rfl rfl rfl rfl (V.mv rfl) (Rn.v rfl rfl rfl rfl (V.addW rfl rfl) (Rn.v rfl rfl rfl rfl (V.as rfl) (Rn.regEnd ?_)))))))
            exact hn92 (z108, (W64 (y88 + 1)), p96.2, A108, c108, F101) _ _ (Sub.cons rfl (Sub.cons rfl (Sub.cons rfl (Sub.cons rfl (Sub.nil _))))) (hm108.pick [0, 4, 3] rfl (by decide)) hM
          intro hk9
          clear hj9
          refine Rn.block ?_
          have hm115 := hm99.addNil 9 textR
          refine Rn.loopF (G := (List (List UInt8)) × Int × (Nat → Prop) × Option Addr × Nat) (fun g => [(0, .slice A0 (x0).length c0), (3, .pointer (some ⟨b9_0, 0, none⟩)), (4, .slice A86 (y85).length c86), (5, .int .i64 (y88)), (6, .slice (g.2.2.2.1) ((g.1)).length (g.2.2.2.2)), (7, .int .i64 ((g.2.1)))]) (fun g w' => Hp Z0 No w w' [slR A0 c0 T_limnographlaw14_Act.rep x0, ownR 9 A86 c86 textR y85, rdR b94 o94 [.int .i64 (z94.Kind), Str (z94.Key), .int .i64 (z94.V)], T_table_Table_int_.obj (g.2.2.1) b9_0 p96.2, ownR 9 (g.2.2.2.1) (g.2.2.2.2) textR (g.1)]) (fun n g => m_limnographlaw14_TableOldest_L3 x0 y85 y88 j9 n g.1 g.2.1) fuel (([] : List (List UInt8)), 0, F96_p0, none, 0) (Sub.cons rfl (Sub.cons rfl (Sub.cons rfl (Sub.cons rfl (Sub.cons rfl (Sub.cons rfl (Sub.nil _))))))) (hm115.pick [0, 1, 2, 3, 4] rfl (by decide)) hM (fun _ => rfl) ?_
          clear hM
          rintro m117 ⟨y111, y114, F110, A112, c112⟩ w117 hm117 hM hn117
          replace hm117 : Hp Z0 No w w117 [slR A0 c0 T_limnographlaw14_Act.rep x0, ownR 9 A86 c86 textR y85, rdR b94 o94 [.int .i64 (z94.Kind), Str (z94.Key), .int .i64 (z94.V)], T_table_Table_int_.obj F110 b9_0 p96.2, ownR 9 A112 c112 textR y111] := hm117
          show Rn _ _ _ _ _ [(0, .slice A0 (x0).length c0), (3, .pointer (some ⟨b9_0, 0, none⟩)), (4, .slice A86 (y85).length c86), (5, .int .i64 (y88)), (6, .slice A112 (y111).length c112), (7, .int .i64 (y114))] _
          replace hM : m_limnographlaw14_TableOldest_L3 x0 y85 y88 j9 (m117 + 1) y111 y114 = some r := hM
          rw [m_limnographlaw14_TableOldest_L3] at hM
          refine Rn.seq (Rn.seq (Rn.reg (Rn.v rfl rfl rfl rfl (V.mv rfl) (Rn.v rfl rfl rfl rfl (V.mv rfl) (Rn.v rfl rfl rfl rfl (V.lenV Try.underlying42 rfl) (Rn.v rfl rfl rfl rfl (V.lss rfl rfl) (Rn.regEnd ?_)))))))
          refine Rn.condD rfl (fun h118 => ?_) (fun h118 => ?_)
          · replace hM := iteT h118 hM
            refine Rn.skip (Rn.seq ?_)
            obtain ⟨j10, hj10, hM⟩ := jnE hM
            refine Rn.joinG (r := r) (G := (List (List UInt8)) × (Nat → Prop) × Option Addr × Nat) (fun g => [(0, .slice A0 (x0).length c0), (3, .pointer (some ⟨b9_0, 0, none⟩)), (4, .slice A86 (y85).length c86), (5, .int .i64 (y88)), (6, .slice (g.2.2.1) ((g.1)).length (g.2.2.2)), (7, .int .i64 (y114))]) (fun g w' => Hp Z0 No w w' [slR A0 c0 T_limnographlaw14_Act.rep x0, ownR 9 A86 c86 textR y85, rdR b94 o94 [.int .i64 (z94.Kind), Str (z94.Key), .int .i64 (z94.V)], T_table_Table_int_.obj (g.2.1) b9_0 p96.2, ownR 9 (g.2.2.1) (g.2.2.2) textR (g.1)]) (fun g => j10 g.1) ?_ ?_
            · subst hj10
              clear hM
              rintro ⟨y120, F119, A121, c121⟩ w123 hm123 hM
              replace hm123 : Hp Z0 No w w123 [slR A0 c0 T_limnographlaw14_Act.rep x0, ownR 9 A86 c86 textR y85, rdR b94 o94 [.int .i64 (z94.Kind), Str (z94.Key), .int .i64 (z94.V)], T_table_Table_int_.obj F119 b9_0 p96.2, ownR 9 A121 c121 textR y120] := hm123
              show Rn _ _ _ _ _ [(0, .slice A0 (x0).length c0), (3, .pointer (some ⟨b9_0, 0, none⟩)), (4, .slice A86 (y85).length c86), (5, .int .i64 (y88)), (6, .slice A121 (y120).length c121), (7, .int .i64 (y114))] _
              try dsimp only at hM
              refine Rn.reg (Rn.v rfl rfl rfl rfl (V.mv rfl) (Rn.v rfl rfl rfl rfl (V.addW rfl rfl) (Rn.v rfl rfl rfl rfl (V.as rfl) (Rn.regEnd ?_))))
              exact hn117 (y120, (W64 (y114 + 1)), F119, A121, c121) _ _ (Sub.cons rfl (Sub.cons rfl (Sub.cons rfl (Sub.cons rfl (Sub.cons rfl (Sub.cons rfl (Sub.nil _))))))) (hm123.pick [0, 1, 2, 3, 4] rfl (by decide)) hM
            intro hk10
            clear hj10
            refine Rn.block (Rn.seq ?_)
            refine Rn.drawP rfl hm117 ?_
            intro w124 hm124
            refine RH.takeP 0 (by kernel_rfl) rfl rfl rfl rfl (V.mv rfl) ?_
            refine RH.takeP 1 (by kernel_rfl) rfl rfl rfl rfl (V.mv rfl) ?_
            obtain ⟨z125, e125, hM⟩ := bindE hM
            obtain ⟨kk125, ke125, kz125, kl125⟩ := idxE e125
            obtain ⟨g125, vs125, hA125, hR125, hrel125⟩ := hm124.ownAt 1 rfl kz125
            subst hA125
            obtain ⟨rfl, _⟩ := hrel125
            refine RH.takeP 2 (by kernel_rfl) rfl rfl rfl rfl (V.ixE kk125 Try.underlying42 Try.sizeOf9 rfl rfl ke125 kl125) ?_
            refine RH.takeP 3 (by kernel_rfl) rfl rfl rfl rfl (V.ldR0 Try.isAgg9 rfl hR125 rfl) ?_
            refine RH.takeP 4 (by kernel_rfl) rfl rfl rfl rfl (V.mv rfl) ?_
            refine RH.takeP 5 (by kernel_rfl) rfl rfl rfl rfl (V.mv rfl) ?_
            obtain ⟨z126, e126, hM⟩ := bindE hM
            obtain ⟨kk126, ke126, kz126, kl126⟩ := idxE e126
            obtain ⟨b126, o126, vs126, hA126, hD126, hR126, hrel126⟩ := Hp.at hm124 0 rfl kz126
            obtain ⟨_, _, rfl, ⟨rfl, _⟩, ⟨_, _, rfl, ⟨rfl, _⟩, ⟨rfl, _⟩⟩⟩ := hrel126
            have hm128 : Hp Z0 No w w124 [slR A0 c0 T_limnographlaw14_Act.rep x0, ownR 9 (some ⟨g125, 0, none⟩) c86 textR y85, rdR b94 o94 [.int .i64 (z94.Kind), Str (z94.Key), .int .i64 (z94.V)], T_table_Table_int_.obj F110 b9_0 p96.2, ownR 9 A112 c112 textR y111, rdR b126 (o126 + kk126 * 3) [.int .i64 (z126.Kind), Str (z126.Key), .int .i64 (z126.V)]] := Hp.knowL [rdR b126 (o126 + kk126 * 3) [.int .i64 (z126.Kind), Str (z126.Key), .int .i64 (z126.V)]] _ hm124 (knC (fun _ h => h) ⟨fun _ => hD126, hR126⟩ kn0)
            refine RH.takeP 6 (by kernel_rfl) rfl rfl rfl rfl (V.ixA' hA126 kk126 Try.underlying22 Try.sizeOf29 rfl rfl ke126 kl126) ?_
            refine RH.takeP 7 (by kernel_rfl) rfl rfl rfl rfl (V.fa Try.underlying29 rfl Try.sizeOf9 rfl rfl) ?_
            refine RH.takeP 8 (by kernel_rfl) rfl rfl rfl rfl (V.ldR Try.isAgg9 rfl (hm128.get 5 rfl).2 rfl) ?_
            refine RH.takeP 9 (by kernel_rfl) rfl rfl rfl rfl (V.neqS rfl rfl) ?_
            refine RH.doneP (by kernel_rfl) ?_
            refine Rn.condD rfl (fun h129 => ?_) (fun h129 => ?_)
            · replace hM := iteT h129 hM
              refine Rn.reg (Rn.v rfl rfl rfl rfl (V.mv rfl) (Rn.v rfl rfl rfl rfl (V.mv rfl) (Rn.v rfl rfl rfl rfl (V.mv rfl) ?_)))
              obtain ⟨z130, e130, hM⟩ := bindE hM
              obtain ⟨kk130, ke130, kz130, kl130⟩ := idxE e130
              obtain ⟨vs130, hR130, hrel130⟩ := hm128.ownAtL 1 rfl kz130
              obtain ⟨rfl, _⟩ := hrel130
              refine Rn.v rfl rfl rfl rfl (V.ixE kk130 Try.underlying42 Try.sizeOf9 rfl rfl ke130 kl130) (Rn.v rfl rfl rfl rfl (V.ldR0 Try.isAgg9 rfl hR130 rfl) ?_)
              obtain ⟨z131, e131, hM⟩ := bindE hM
              refine Rn.pushH (z := z130) (vs := [Str (z130)]) hm128 4 rfl e131 rfl rfl rfl rfl Try.underlying42 el9 rfl rfl rfl rfl (fun _ => rfl) (⟨rfl, trivial⟩) ?_
              intro A131 c131 w131 u131 hm131
              refine Rn.v rfl rfl rfl rfl (V.as rfl) (Rn.regEnd (Rn.inBlock ?_))
              exact hk10 (z131, F110, A131, c131) _ _ (Sub.cons rfl (Sub.cons rfl (Sub.cons rfl (Sub.cons rfl (Sub.cons rfl (Sub.cons rfl (Sub.nil _))))))) (hm131.pick [0, 1, 2, 3, 4] rfl (by decide)) hM
            · replace hM := iteF h129 hM
              refine Rn.skip (Rn.inBlock ?_)
              exact hk10 (y111, F110, A112, c112) _ _ (Sub.cons rfl (Sub.cons rfl (Sub.cons rfl (Sub.cons rfl (Sub.cons rfl (Sub.cons rfl (Sub.nil _))))))) (hm128.pick [0, 1, 2, 3, 4] rfl (by decide)) hM
          · replace hM := iteF h118 hM
            refine Rn.exit rfl ?_
            exact hk9 (y111, F110, A112, c112) _ _ (Sub.cons rfl (Sub.cons rfl (Sub.cons rfl (Sub.cons rfl (Sub.nil _))))) (hm117.pick [0, 1, 2, 3, 4] rfl (by decide)) hM
      · replace hM := iteF h93 hM
        refine Rn.exit rfl ?_
        exact hk1 (y85, y89, A86, c86, F89) _ _ (Sub.cons rfl (Sub.cons rfl (Sub.nil _))) (hm92.pick [0, 1, 2] rfl (by decide)) hM

end Go.Proofs.Ytklaeckldfooaaa
