/-
  Walks of the program's checksum and disk, part 1: what each call answers, and what stays of the memory. Printed by a program.
-/
import Derived.Test.YtlfppodekihcmaaGreatDoorRows
import Derived.Test.YtlfppodekihcmaaGreatDoorWi
import Derived.Test.YtlfppodekihcmaaGreatDoorWu
import Derived.Test.YtlfppodekihcmaaGreatDoorWv
import Derived.Test.YtlfppodekihcmaaGreatDoorIt
import Derived.Test.YtlfppodekihcmaaGreatDoorPd
namespace Go.Proofs.YtlfppodekihcmaaGreatDoor
open Go Go.RowKit Go.Wk
theorem ck142 : CallOk Tryz.prog 142 := ⟨_, _, Tryz.func142, rfl, by kernel_rfl⟩
set_option maxRecDepth 20000 in
theorem nibbles_spec (w : World) : Calls Tryz.prog 142 #[] w fun x w' => x = .returned (.agg (tbl 16).toArray) ∧ Ext w w' := by
  refine Rn.enter Tryz.func142 rfl rfl (Nat.le_of_ble_eq_true rfl) ?_
  refine Rn.seq (Rn.reg (Rn.alloc rfl rfl rfl Tryz.zeroValue229 rfl ?_))
  intro b1 w1 hb1 m1 x1
  have hz1 : w.heap.size ≤ b1 := by omega
  have hl1 : b1 < w1.heap.size := m1.lt
  have hs1 := x1.size
  refine Rn.regEnd (Rn.seq (Rn.seq (Rn.reg (Rn.v rfl rfl rfl rfl (V.mv rfl) (Rn.regEnd (Rn.block ?_))))))
  refine Rn.loopI (G := Nat) (fun g => [(0, .pointer (some ⟨b1, 0, none⟩)), (3, .int .i64 g)]) (fun g w' => g ≤ 16 ∧ Blk w' b1 229 (tbl g) ∧ Ext w w') (fun g => 16 - g) 0 ?_ ?_ ?_
  · exact Sub.cons rfl (Sub.cons (lki _ rfl (by first | omega | rfl | (dsimp only; omega))) (Sub.nil _))
  · exact ⟨by omega, m1, x1⟩
  rintro i w2 ⟨hi, mi, x2⟩ hn2
  have hs2 := x2.size
  refine Rn.seq (Rn.reg (Rn.v rfl rfl rfl rfl (V.lss rfl rfl) (Rn.regEnd (Rn.seq ?_))))
  refine Rn.condD rfl (fun hlt => ?_) (fun hlt => ?_)
  refine Rn.skip (Rn.seq (Rn.block (Rn.seq (Rn.reg (Rn.v rfl rfl rfl rfl (V.mv rfl) (Rn.v rfl rfl rfl rfl (V.as rfl) (Rn.regEnd (Rn.seq (Rn.reg (Rn.v rfl rfl rfl rfl (V.mv rfl) (Rn.v rfl rfl rfl rfl (V.cvI Tryz.underlying3 Tryz.underlying160 rfl (wu32 (by omega) (by omega))) (Rn.v rfl rfl rfl rfl (V.as rfl) (Rn.regEnd (Rn.seq (Rn.seq (Rn.reg (Rn.v rfl rfl rfl rfl (V.mv rfl) (Rn.regEnd (Rn.block ?_)))))))))))))))))))
  refine Rn.loopI (G := Nat) (fun g => [(0, .pointer (some ⟨b1, 0, none⟩)), (3, .int .i64 i), (1, .int .i64 i), (2, I32 (stepN g (UInt32.ofNat i))), (8, .int .i64 g)]) (fun g w' => g ≤ 4 ∧ w2 = w') (fun g => 4 - g) 0 ?_ ?_ ?_
  · exact Sub.cons rfl (Sub.cons (lki _ rfl (by first | omega | rfl | (dsimp only; omega))) (Sub.cons (lki _ rfl (by first | omega | rfl | (dsimp only; omega))) (Sub.cons (lkv _ rfl (by simp only [stepN, I32]; congr 1; rw [UInt32.toNat_ofNat']; omega)) (Sub.cons (lki _ rfl (by first | omega | rfl | (dsimp only; omega))) (Sub.nil _)))))
  · exact ⟨by omega, rfl⟩
  rintro j _ ⟨hj, rfl⟩ hn3
  refine Rn.seq (Rn.reg (Rn.v rfl rfl rfl rfl (V.lss rfl rfl) (Rn.regEnd (Rn.seq ?_))))
  refine Rn.condD rfl (fun hj4 => ?_) (fun hj4 => ?_)
  refine Rn.skip (Rn.seq (Rn.block (Rn.reg (Rn.v rfl rfl rfl rfl (V.mv rfl) (Rn.v rfl rfl rfl rfl (V.sh32 rfl rfl _ 1 rfl rfl (b32_shr _ _ _ 1 (by decide))) (Rn.v rfl rfl rfl rfl (V.mv rfl) (Rn.v rfl rfl rfl rfl (V.o32 rfl rfl _ (1 : UInt32) rfl rfl (b32_and _ _ _)) (Rn.v rfl rfl rfl rfl (V.neg32 rfl _ rfl) (Rn.v rfl rfl rfl rfl (V.o32 rfl rfl (2197175160 : UInt32) _ rfl rfl (b32_and _ _ _)) (Rn.v rfl rfl rfl rfl (V.o32 rfl rfl _ _ rfl rfl (b32_xor _ _ _)) (Rn.v rfl rfl rfl rfl (V.as rfl) (Rn.regEnd (Rn.inBlock (Rn.reg (Rn.v rfl rfl rfl rfl (V.addI rfl rfl (w64 (by omega) (by omega))) (Rn.v rfl rfl rfl rfl (V.mv rfl) (Rn.regEnd ?_)))))))))))))))))
  exact hn3 (j+1) _ _ (Sub.cons rfl (Sub.cons (lki _ rfl (by first | omega | rfl | (dsimp only; omega))) (Sub.cons (lki _ rfl (by first | omega | rfl | (dsimp only; omega))) (Sub.cons rfl (Sub.cons (lki _ rfl (by first | omega | rfl | (dsimp only; omega))) (Sub.nil _)))))) (⟨by omega, rfl⟩) (by omega)
  obtain rfl : j = 4 := by omega
  refine Rn.exit rfl (Rn.reg (Rn.v rfl rfl rfl rfl (V.mv rfl) (Rn.v rfl rfl rfl rfl (V.mv rfl) (Rn.v rfl rfl rfl rfl (V.ixR i Tryz.underlying229 Tryz.sizeOf160 rfl rfl rfl (by omega)) (Rn.st rfl rfl Tryz.sizeOf160 rfl rfl rfl rfl (by first | exact ones rfl | (simp [Value.oneCell']; done)) mi (by first | decide | (simp [tbl]; try omega)) ?_)))))
  intro w4 m4 x4
  have e4 : Ext w w4 := (x2).trans' x4 (fun x hx => .inr (by subst hx; omega))
  have hs4 := x4.size
  refine Rn.regEnd (Rn.inBlock (Rn.reg (Rn.v rfl rfl rfl rfl (V.addI rfl rfl (w64 (by omega) (by omega))) (Rn.v rfl rfl rfl rfl (V.mv rfl) (Rn.regEnd ?_)))))
  exact hn2 (i+1) _ _ (Sub.cons rfl (Sub.cons (lki _ rfl (by first | omega | rfl | (dsimp only; omega))) (Sub.nil _))) (⟨by omega, by rw [← tbl_set i (by omega)]; simpa [setL, nib] using m4, e4⟩) (by omega)
  obtain rfl : i = 16 := by omega
  refine Rn.exit rfl (Rn.seq (Rn.reg (Rn.v rfl rfl rfl rfl (V.ldBA _ Tryz.isAgg229 Tryz.sizeOf229 rfl mi rfl rfl) (Rn.st rfl rfl Tryz.sizeOf229 rfl rfl rfl rfl (fun u hu => tbl_one 16 u (List.mem_of_mem_drop (List.mem_of_mem_take hu))) mi (by first | decide | (simp [tbl]; try omega)) ?_))))
  intro w5 m5 x5
  have e5 : Ext w w5 := (x2).trans' x5 (fun x hx => .inr (by subst hx; omega))
  have hs5 := x5.size
  refine Rn.regEnd ?_
  refine Rn.retC Tryz.func142 rfl rfl Tryz.isAgg229 Tryz.sizeOf229 m5 rfl ?_
  exact ⟨rfl, e5⟩

set_option maxRecDepth 20000 in
theorem more_spec (s : UInt32) (A : Option Addr) (c : Nat) (l : List UInt8) (w : World) (hl : l.length ≤ 4294967296) (hS : Sl All w A byteR l) :
    Calls Tryz.prog 113 #[I32 s, .slice A l.length c] w fun x w' => x = .returned (I32 (moreC s l)) ∧ Ext w w' := by
  refine Rn.enter Tryz.func113 rfl rfl (Nat.le_of_ble_eq_true rfl) ?_
  refine Rn.seq (Rn.reg (Rn.v rfl rfl rfl rfl (V.as rfl) (Rn.regEnd (Rn.seq (Rn.reg (Rn.cl ck142 rfl rfl rfl rfl (nibbles_spec _) ?_))))))
  rintro _ w1 ⟨rfl, x1⟩
  have hs1 := x1.size
  refine ⟨_, rfl, ?_⟩
  refine Rn.als rfl rfl rfl Tryz.zeroValue229 rfl Tryz.sizeOf229 rfl rfl rfl rfl (tbl_one 16) ?_
  intro b2 w2 hb2 m2 x2
  have hz2 : w.heap.size ≤ b2 := by have := (x1).size; omega
  have hl2 : b2 < w2.heap.size := m2.lt
  have hs2 := x2.size
  refine Rn.regEnd (Rn.seq (Rn.reg (Rn.v rfl rfl rfl rfl (V.mv rfl) (Rn.v rfl rfl rfl rfl (V.not32 rfl _ rfl) (Rn.v rfl rfl rfl rfl (V.as rfl) (Rn.regEnd (Rn.seq (Rn.seq (Rn.reg (Rn.v rfl rfl rfl rfl (V.mv rfl) (Rn.v rfl rfl rfl rfl (V.lenV Tryz.underlying51 rfl) (Rn.v rfl rfl rfl rfl (V.mv rfl) (Rn.regEnd (Rn.block ?_))))))))))))))
  refine Rn.loopI (G := Nat) (fun g => [(0, I32 ((l.take g).foldl byteC (~~~ s))), (5, .pointer (some ⟨b2, 0, none⟩)), (11, .slice A l.length c), (12, .int .i64 l.length), (13, .int .i64 g), (1, .slice A l.length c)]) (fun g w' => g ≤ l.length ∧ Blk w' b2 229 (tbl 16) ∧ Ext w w') (fun g => l.length - g) 0 ?_ ?_ ?_
  · exact Sub.cons rfl (Sub.cons rfl (Sub.cons rfl (Sub.cons (lki _ rfl (by first | omega | rfl | (dsimp only; omega))) (Sub.cons (lki _ rfl (by first | omega | rfl | (dsimp only; omega))) (Sub.cons rfl (Sub.nil _))))))
  · exact ⟨by omega, m2, x1.trans x2⟩
  rintro k w3 ⟨hk, mt, x3⟩ hn3
  have hs3 := x3.size
  refine Rn.seq (Rn.reg (Rn.v rfl rfl rfl rfl (V.lss rfl rfl) (Rn.regEnd (Rn.seq ?_))))
  refine Rn.condD rfl (fun hlt => ?_) (fun hlt => ?_)
  obtain ⟨z, hz⟩ : ∃ z, l[k]? = some z := ⟨_, List.getElem?_eq_getElem (by omega)⟩
  obtain ⟨q, hq⟩ : ∃ q, (l.take k).foldl byteC (~~~ s) = q := ⟨_, rfl⟩
  rw [hq]
  refine Rn.skip (Rn.seq (Rn.block (Rn.seq (Rn.reg (Rn.ix k z rfl rfl rfl Tryz.underlying51 Tryz.sizeOf5 rfl rfl (hS.ext x3) rfl hz rfl (by omega) ?_)))))
  rintro b4 o4 vs4 r4 ⟨rfl, _⟩ hD4
  refine Rn.v rfl rfl rfl rfl (V.ldR0 Tryz.isAgg5 rfl r4 rfl) (Rn.v rfl rfl rfl rfl (V.as rfl) (Rn.regEnd (Rn.seq (Rn.reg (Rn.v rfl rfl rfl rfl (V.mv rfl) (Rn.v rfl rfl rfl rfl (V.mv rfl) (Rn.v rfl rfl rfl rfl (V.cv832 Tryz.underlying5 Tryz.underlying160 rfl _ rfl) (Rn.v rfl rfl rfl rfl (V.o32 rfl rfl _ _ rfl rfl (b32_xor _ _ _)) (Rn.v rfl rfl rfl rfl (V.as rfl) (Rn.regEnd (Rn.seq (Rn.reg (Rn.v rfl rfl rfl rfl (V.mv rfl) (Rn.v rfl rfl rfl rfl (V.sh32 rfl rfl _ 4 rfl rfl (b32_shr _ _ _ 4 (by decide))) (Rn.v rfl rfl rfl rfl (V.mv rfl) (Rn.v rfl rfl rfl rfl (V.o32 rfl rfl _ (15 : UInt32) rfl rfl (b32_and _ _ _)) (Rn.v rfl rfl rfl rfl (V.ixR ((q ^^^ z.toUInt32) &&& 15).toNat Tryz.underlying229 Tryz.sizeOf160 rfl rfl rfl (tbl_get _).2) (Rn.v rfl rfl rfl rfl (V.ld Tryz.isAgg160 rfl ((mt.cell _).trans (by rw [Nat.zero_add, Nat.mul_one]; exact (tbl_get _).1))) (Rn.v rfl rfl rfl rfl (V.o32 rfl rfl _ _ rfl rfl (b32_xor _ _ _)) (Rn.v rfl rfl rfl rfl (V.as rfl) (Rn.regEnd (Rn.reg (Rn.v rfl rfl rfl rfl (V.mv rfl) (Rn.v rfl rfl rfl rfl (V.sh32 rfl rfl _ 4 rfl rfl (b32_shr _ _ _ 4 (by decide))) (Rn.v rfl rfl rfl rfl (V.mv rfl) (Rn.v rfl rfl rfl rfl (V.o32 rfl rfl _ (15 : UInt32) rfl rfl (b32_and _ _ _)) (Rn.v rfl rfl rfl rfl (V.ixR ((((q ^^^ z.toUInt32) >>> 4) ^^^ nib ((q ^^^ z.toUInt32) &&& 15)) &&& 15).toNat Tryz.underlying229 Tryz.sizeOf160 rfl rfl rfl (tbl_get _).2) (Rn.v rfl rfl rfl rfl (V.ld Tryz.isAgg160 rfl ((mt.cell _).trans (by rw [Nat.zero_add, Nat.mul_one]; exact (tbl_get _).1))) (Rn.v rfl rfl rfl rfl (V.o32 rfl rfl _ _ rfl rfl (b32_xor _ _ _)) (Rn.v rfl rfl rfl rfl (V.as rfl) (Rn.regEnd (Rn.inBlock (Rn.reg (Rn.v rfl rfl rfl rfl (V.addI rfl rfl (w64 (by omega) (by omega))) (Rn.v rfl rfl rfl rfl (V.mv rfl) (Rn.regEnd ?_))))))))))))))))))))))))))))))))))))
  exact hn3 (k+1) _ _ (Sub.cons (by rw [List.take_add_one, hz, List.foldl_append, hq]; rfl) (Sub.cons rfl (Sub.cons rfl (Sub.cons (lki _ rfl (by first | omega | rfl | (dsimp only; omega))) (Sub.cons (lki _ rfl (by first | omega | rfl | (dsimp only; omega))) (Sub.cons rfl (Sub.nil _))))))) (⟨by omega, mt, x3⟩) (by omega)
  refine Rn.exit rfl (Rn.seq (Rn.reg (Rn.v rfl rfl rfl rfl (V.mv rfl) (Rn.v rfl rfl rfl rfl (V.not32 rfl _ rfl) (Rn.v rfl rfl rfl rfl (V.as rfl) (Rn.regEnd ?_))))))
  refine Rn.ret1 Tryz.func113 rfl rfl ?_
  exact ⟨by rw [List.take_of_length_le (by omega)]; rfl, x3⟩

theorem ck113 : CallOk Tryz.prog 113 := ⟨_, _, Tryz.func113, rfl, by kernel_rfl⟩
set_option maxRecDepth 20000 in
theorem of_spec (A : Option Addr) (c : Nat) (l : List UInt8) (w : World) (hl : l.length ≤ 4294967296) (hS : Sl All w A byteR l) :
    Calls Tryz.prog 114 #[.slice A l.length c] w fun x w' => x = .returned (I32 (moreC 0 l)) ∧ Ext w w' := by
  refine Rn.enter Tryz.func114 rfl rfl (Nat.le_of_ble_eq_true rfl) ?_
  refine Rn.seq (Rn.reg (Rn.v rfl rfl rfl rfl (V.as rfl) (Rn.regEnd (Rn.seq (Rn.reg (Rn.v rfl rfl rfl rfl (V.mv rfl) (Rn.cl ck113 rfl rfl rfl rfl (more_spec 0 _ _ _ _ hl hS) ?_)))))))
  rintro _ w1 ⟨rfl, x1⟩
  refine ⟨_, rfl, ?_⟩
  refine Rn.v rfl rfl rfl rfl (V.as rfl) (Rn.regEnd ?_)
  refine Rn.ret1 Tryz.func114 rfl rfl ?_
  exact ⟨rfl, x1⟩

theorem el5 : ElOk Tryz.prog 5 1 1 := elOk_of (by kernel_rfl) (by decide)
set_option maxRecDepth 20000 in
theorem clone_spec {D : Nat → Prop} (A : Option Addr) (c : Nat) (l : List UInt8) (w : World) (hl : l.length ≤ 4294967296) (hS : Sl D w A byteR l) :
Calls Tryz.prog 32 #[.slice A l.length c] w fun x w' => ∃ A' c', x = .returned (.slice A' l.length c') ∧ Own w.heap.size No w' 5 A' c' byteR l ∧ Ext w w' := by
  refine Rn.enter Tryz.func32 rfl rfl (Nat.le_of_ble_eq_true rfl) ?_
  refine Rn.seq (Rn.reg (Rn.v rfl rfl rfl rfl (V.as rfl) (Rn.regEnd (Rn.seq (Rn.seq (Rn.reg (Rn.v rfl rfl rfl rfl (V.mv rfl) (Rn.v rfl rfl rfl rfl (V.eqlV Tryz.underlying51 rfl rfl) (Rn.regEnd ?_)))))))))
  refine Rn.condS rfl (fun hn => ?_) (fun hn => ?_)
  obtain rfl : A = none := by simpa using hn
  obtain rfl := hS.nil_of
  refine Rn.seq (Rn.reg (Rn.v rfl rfl rfl rfl (V.as rfl) (Rn.regEnd ?_)))
  refine Rn.ret1 Tryz.func32 rfl rfl ?_
  exact ⟨none, 0, rfl, Own.nil _ _ _ _ _, Ext.refl _⟩
  refine Rn.skip (Rn.seq (Rn.reg (Rn.bslS rfl rfl rfl Tryz.underlying51 el5 rfl rfl rfl rfl (by first | exact szs rfl | (simp [Value.cells]; done)) (by decide) ?_)))
  intro b1 w1 hb1 m1 x1
  have o1 : Own w.heap.size No w1 5 (some ⟨b1, 0, none⟩) 0 byteR [] := own_bytes [] m1 (by omega) (Nat.le_of_ble_eq_true rfl)
  refine Rn.v rfl rfl rfl rfl (V.mv rfl) (Rn.appF byte_flat rfl rfl rfl Tryz.underlying51 el5 rfl rfl rfl o1 (hS.ext x1) rfl (by first | exact (x1).size | exact Nat.zero_le _) (by first | omega | (simp; done) | (simp; omega)) (by first | omega | (simp; done) | (simp; omega)) ?_)
  intro A2 c2 w2 o2 x2 q2
  have e2 : Ext w w2 := (x1).trans' x2 (fun x hx => .inr (by exact (o1.base x hx).1))
  refine Rn.v rfl rfl rfl rfl (V.as rfl) (Rn.regEnd ?_)
  refine Rn.ret1 Tryz.func32 rfl rfl ?_
  exact ⟨A2, c2, by simp, by simpa using o2, e2⟩


set_option maxRecDepth 20000 in
theorem begin_spec {b mb : Nat} {ms : Ms} {ck : Nat} {bss : List (List Nat)} {F : Nat → Prop} {s : PD} (w : World) (hc : s.calls < 4611686018427387904) (h : DkP 73 78 5 w b mb ms ck bss F s) :
Calls Tryz.prog 88 #[.pointer (some ⟨b, 0, none⟩)] w fun x w' => x = .returned (.int .i64 s.begin.2) ∧ DkP 73 78 5 w' b mb ms ck bss F s.begin.1 ∧ Fr (fun x => x = b) w w' := by
  have hB := h.blk
  refine Rn.enter Tryz.func88 rfl rfl (Nat.le_of_ble_eq_true rfl) ?_
  refine Rn.seq (Rn.reg (Rn.v rfl rfl rfl rfl (V.as rfl) (Rn.regEnd (Rn.seq (Rn.seq (Rn.reg (Rn.v rfl rfl rfl rfl (V.mv rfl) (Rn.v rfl rfl rfl rfl (V.nil rfl) (Rn.v rfl rfl rfl rfl (V.fa Tryz.underlying73 rfl Tryz.sizeOf4 rfl rfl) (Rn.v rfl rfl rfl rfl (V.ldB Tryz.isAgg4 rfl hB rfl) (Rn.regEnd ?_)))))))))))
  refine Rn.condS rfl (fun h1 => ?_) (fun h1 => ?_)
  refine Rn.seq (Rn.reg (Rn.v rfl rfl rfl rfl (V.as rfl) (Rn.regEnd ?_)))
  refine Rn.ret1 Tryz.func88 rfl rfl ?_
  have hb : s.begin = (s, 13) := if_pos h1
  exact ⟨by rw [hb], by rw [hb]; exact h, (Fr.refl _ _)⟩
  refine Rn.skip (Rn.seq (Rn.reg (Rn.v rfl rfl rfl rfl (V.mv rfl) (Rn.v rfl rfl rfl rfl (V.nil rfl) (Rn.v rfl rfl rfl rfl (V.fa Tryz.underlying73 rfl Tryz.sizeOf3 rfl rfl) (Rn.v rfl rfl rfl rfl (V.ldB Tryz.isAgg3 rfl hB rfl) (Rn.v rfl rfl rfl rfl (V.addI rfl rfl (w64 (by omega) (by omega))) (Rn.v rfl rfl rfl rfl (V.nil rfl) (Rn.v rfl rfl rfl rfl (V.fa Tryz.underlying73 rfl Tryz.sizeOf3 rfl rfl) (Rn.st rfl rfl Tryz.sizeOf3 rfl rfl rfl rfl (by first | exact ones rfl | (simp [Value.oneCell']; done)) hB (by first | exact Nat.le_of_ble_eq_true rfl | (simp; done)) ?_))))))))))
  intro w1 m1 x1
  have e1 : Fr (fun x => x = b) w w1 := ((Fr.refl _ _)).trans' x1 (fun x hx => by first | exact .inl hx | exact .inr (by subst hx; omega))
  refine Rn.regEnd (Rn.seq (Rn.seq (Rn.reg (Rn.v rfl rfl rfl rfl (V.mv rfl) (Rn.v rfl rfl rfl rfl (V.nil rfl) (Rn.v rfl rfl rfl rfl (V.fa Tryz.underlying73 rfl Tryz.sizeOf3 rfl rfl) (Rn.v rfl rfl rfl rfl (V.ldB Tryz.isAgg3 rfl m1 rfl) (Rn.regEnd (Rn.block (Rn.seq (Rn.reg (Rn.v rfl rfl rfl rfl (V.mv rfl) (Rn.v rfl rfl rfl rfl (V.nil rfl) (Rn.v rfl rfl rfl rfl (V.fa Tryz.underlying73 rfl Tryz.sizeOf71 rfl rfl) (Rn.v rfl rfl rfl rfl (V.fa Tryz.underlying71 rfl Tryz.sizeOf3 rfl rfl) (Rn.v rfl rfl rfl rfl (V.ldB Tryz.isAgg3 rfl m1 rfl) (Rn.v rfl rfl rfl rfl (V.eql rfl rfl) (Rn.v rfl rfl rfl rfl (V.as rfl) (Rn.regEnd ?_)))))))))))))))))))
  refine Rn.condD rfl (fun h2 => ?_) (fun h2 => ?_)
  refine Rn.seq (Rn.reg (Rn.v rfl rfl rfl rfl (V.mv rfl) (Rn.v rfl rfl rfl rfl (V.nil rfl) (Rn.v rfl rfl rfl rfl (V.fa Tryz.underlying73 rfl Tryz.sizeOf4 rfl rfl) (Rn.st rfl rfl Tryz.sizeOf4 rfl rfl rfl rfl (by first | exact ones rfl | (simp [Value.oneCell']; done)) m1 (by first | exact Nat.le_of_ble_eq_true rfl | (simp; done)) ?_)))))
  intro w2 m2 x2
  have e2 : Fr (fun x => x = b) w w2 := (e1).trans' x2 (fun x hx => by first | exact .inl hx | exact .inr (by subst hx; omega))
  refine Rn.regEnd (Rn.seq (Rn.reg (Rn.v rfl rfl rfl rfl (V.as rfl) (Rn.regEnd ?_))))
  refine Rn.ret1 Tryz.func88 rfl rfl ?_
  have hb : s.begin = ({ s with calls := s.calls + 1, down := true }, 13) := by unfold PD.begin; rw [if_neg (by simp [h1]), if_pos h2]
  exact ⟨by rw [hb], by rw [hb]; exact h.own e2 rfl m2, e2⟩
  refine Rn.seq (Rn.reg (Rn.v rfl rfl rfl rfl (V.mv rfl) (Rn.v rfl rfl rfl rfl (V.nil rfl) (Rn.v rfl rfl rfl rfl (V.fa Tryz.underlying73 rfl Tryz.sizeOf71 rfl rfl) (Rn.v rfl rfl rfl rfl (V.fa Tryz.underlying71 rfl Tryz.sizeOf3 rfl rfl) (Rn.v rfl rfl rfl rfl (V.ldB Tryz.isAgg3 rfl m1 rfl) (Rn.v rfl rfl rfl rfl (V.eql rfl rfl) (Rn.v rfl rfl rfl rfl (V.as rfl) (Rn.regEnd ?_)))))))))
  refine Rn.condD rfl (fun h3 => ?_) (fun h3 => ?_)
  refine Rn.seq (Rn.reg (Rn.v rfl rfl rfl rfl (V.mv rfl) (Rn.v rfl rfl rfl rfl (V.nil rfl) (Rn.v rfl rfl rfl rfl (V.fa Tryz.underlying73 rfl Tryz.sizeOf71 rfl rfl) (Rn.v rfl rfl rfl rfl (V.fa Tryz.underlying71 rfl Tryz.sizeOf26 rfl rfl) (Rn.v rfl rfl rfl rfl (V.ldB Tryz.isAgg26 rfl m1 rfl) (Rn.v rfl rfl rfl rfl (V.as rfl) (Rn.regEnd ?_))))))))
  refine Rn.ret1 Tryz.func88 rfl rfl ?_
  have hb : s.begin = ({ s with calls := s.calls + 1 }, s.fe) := by unfold PD.begin; rw [if_neg (by simp [h1]), if_neg h2, if_pos h3]
  exact ⟨by rw [hb], by rw [hb]; exact h.own e1 rfl m1, e1⟩
  refine Rn.skip (Rn.inBlock (Rn.seq (Rn.reg (Rn.v rfl rfl rfl rfl (V.as rfl) (Rn.regEnd ?_)))))
  refine Rn.ret1 Tryz.func88 rfl rfl ?_
  have hb : s.begin = ({ s with calls := s.calls + 1 }, 0) := by unfold PD.begin; rw [if_neg (by simp [h1]), if_neg h2, if_neg h3]
  exact ⟨by rw [hb], by rw [hb]; exact h.own e1 rfl m1, e1⟩


set_option maxRecDepth 20000 in
theorem isName_spec (l : List UInt8) (w : World) : Calls Tryz.prog 31 #[Str l] w fun x w' => x = .returned (.bool (isNm l)) ∧ Ext w w' := by
  refine Rn.enter Tryz.func31 rfl rfl (Nat.le_of_ble_eq_true rfl) ?_
  refine Rn.seq (Rn.reg (Rn.v rfl rfl rfl rfl (V.as rfl) (Rn.regEnd (Rn.seq (Rn.seq (Rn.reg (Rn.v rfl rfl rfl rfl (V.mv rfl) (Rn.v rfl rfl rfl rfl (V.eqlS rfl rfl) (Rn.v rfl rfl rfl rfl (V.mv rfl) ?_)))))))))
  refine Rn.partD (t := 7) rfl (fun h1 => ?_) (fun h1 => ?_)
  refine Rn.no rfl rfl rfl rfl (Rn.no rfl rfl rfl rfl (Rn.no rfl rfl rfl rfl (Rn.v rfl rfl rfl rfl (V.pkT rfl rfl) (Rn.regEnd (Rn.condT rfl (Rn.seq (Rn.reg (Rn.v rfl rfl rfl rfl (V.as rfl) (Rn.regEnd ?_)))))))))
  refine Rn.ret1 Tryz.func31 rfl rfl ?_
  exact ⟨by rw [isNm_len l (.inl (by simpa using h1))], (Ext.refl _)⟩
  refine Rn.v rfl rfl rfl rfl (V.mv rfl) (Rn.v rfl rfl rfl rfl (V.lenS Tryz.underlying9 rfl) (Rn.v rfl rfl rfl rfl (V.gtr rfl rfl) (Rn.v rfl rfl rfl rfl (V.pkF rfl rfl) (Rn.regEnd ?_))))
  refine Rn.condD rfl (fun h2 => ?_) (fun h2 => ?_)
  refine Rn.seq (Rn.reg (Rn.v rfl rfl rfl rfl (V.as rfl) (Rn.regEnd ?_)))
  refine Rn.ret1 Tryz.func31 rfl rfl ?_
  exact ⟨by rw [isNm_len l (.inr (by omega))], (Ext.refl _)⟩
  refine Rn.skip (Rn.seq (Rn.seq (Rn.reg (Rn.v rfl rfl rfl rfl (V.mv rfl) (Rn.s2b rfl rfl rfl Tryz.underlying9 Tryz.underlying51 Tryz.underlying5 rfl (by simp [maxLen]; omega) ?_)))))
  rintro b1 c1 w1 hb1 hc1 hm1 x1 hl1 s1
  refine Rn.v rfl rfl rfl rfl (V.lenV Tryz.underlying51 rfl) (Rn.v rfl rfl rfl rfl (V.mv rfl) (Rn.regEnd (Rn.block ?_)))
  refine Rn.loopI (G := Nat) (fun g => [(13, .slice (some ⟨b1, 0, none⟩) l.length c1), (14, .int .i64 l.length), (15, .int .i64 g), (0, Str l)]) (fun g w' => g ≤ l.length ∧ (∀ c ∈ l.take g, okC c) ∧ w1 = w') (fun g => l.length - g) 0 ?_ ?_ ?_
  · exact Sub.cons rfl (Sub.cons (lki _ rfl (by first | omega | rfl | (dsimp only; omega))) (Sub.cons (lki _ rfl (by first | omega | rfl | (dsimp only; omega))) (Sub.cons rfl (Sub.nil _))))
  · exact ⟨by omega, by simp, rfl⟩
  rintro i _ ⟨hi, hall, rfl⟩ hn2
  refine Rn.seq (Rn.reg (Rn.v rfl rfl rfl rfl (V.lss rfl rfl) (Rn.regEnd (Rn.seq ?_))))
  refine Rn.condD rfl (fun hlt => ?_) (fun hlt => ?_)
  obtain ⟨z, hz⟩ : ∃ z, l[i]? = some z := ⟨_, List.getElem?_eq_getElem (by omega)⟩
  refine Rn.skip (Rn.seq (Rn.block (Rn.seq (Rn.reg (Rn.ix i z rfl rfl rfl Tryz.underlying51 Tryz.sizeOf5 rfl rfl s1 rfl hz rfl (by omega) ?_)))))
  rintro b3 o3 vs3 r3 ⟨rfl, _⟩ hD3
  refine Rn.v rfl rfl rfl rfl (V.ldR0 Tryz.isAgg5 rfl r3 rfl) (Rn.v rfl rfl rfl rfl (V.as rfl) (Rn.regEnd (Rn.seq (Rn.reg (Rn.v rfl rfl rfl rfl (V.mv rfl) (Rn.v rfl rfl rfl rfl (V.lss rfl rfl) (Rn.v rfl rfl rfl rfl (V.mv rfl) ?_)))))))
  refine Rn.partD (t := 21) rfl (fun h4 => ?_) (fun h4 => ?_)
  refine Rn.no rfl rfl rfl rfl (Rn.no rfl rfl rfl rfl (Rn.v rfl rfl rfl rfl (V.pkT rfl rfl) (Rn.v rfl rfl rfl rfl (V.mv rfl) (Rn.v rfl rfl rfl rfl (V.mv rfl) (Rn.v rfl rfl rfl rfl (V.lss rfl rfl) (Rn.v rfl rfl rfl rfl (V.mv rfl) ?_))))))
  refine Rn.partD (t := 28) rfl (fun h5 => ?_) (fun h5 => ?_)
  refine Rn.no rfl rfl rfl rfl (Rn.no rfl rfl rfl rfl (Rn.v rfl rfl rfl rfl (V.pkT rfl rfl) (Rn.v rfl rfl rfl rfl (V.pkT rfl rfl) (Rn.v rfl rfl rfl rfl (V.mv rfl) (Rn.v rfl rfl rfl rfl (V.mv rfl) (Rn.v rfl rfl rfl rfl (V.neq rfl rfl) (Rn.v rfl rfl rfl rfl (V.pkT rfl rfl) (Rn.v rfl rfl rfl rfl (V.mv rfl) ?_))))))))
  refine Rn.partD (t := 37) rfl (fun h6 => ?_) (fun h6 => ?_)
  refine Rn.v rfl rfl rfl rfl (V.mv rfl) (Rn.v rfl rfl rfl rfl (V.neq rfl rfl) (Rn.v rfl rfl rfl rfl (V.pkT rfl rfl) (Rn.regEnd ?_)))
  refine Rn.condD rfl (fun h7 => ?_) (fun h7 => ?_)
  refine Rn.seq (Rn.reg (Rn.v rfl rfl rfl rfl (V.as rfl) (Rn.regEnd ?_)))
  refine Rn.ret1 Tryz.func31 rfl rfl ?_
  exact ⟨by rw [isNm_bad l i z hz (by unfold okC; omega)], x1⟩
  refine Rn.skip (Rn.inBlock (Rn.reg (Rn.v rfl rfl rfl rfl (V.addI rfl rfl (w64 (by omega) (by omega))) (Rn.v rfl rfl rfl rfl (V.mv rfl) (Rn.regEnd ?_)))))
  exact hn2 (i+1) _ _ (Sub.cons rfl (Sub.cons (lki _ rfl (by first | omega | rfl | (dsimp only; omega))) (Sub.cons (lki _ rfl (by first | omega | rfl | (dsimp only; omega))) (Sub.cons rfl (Sub.nil _))))) (⟨by omega, okC_take hz hall (by unfold okC; omega), rfl⟩) (by omega)
  refine Rn.no rfl rfl rfl rfl (Rn.no rfl rfl rfl rfl (Rn.v rfl rfl rfl rfl (V.pkF rfl rfl) (Rn.regEnd (Rn.condF rfl (Rn.skip (Rn.inBlock (Rn.reg (Rn.v rfl rfl rfl rfl (V.addI rfl rfl (w64 (by omega) (by omega))) (Rn.v rfl rfl rfl rfl (V.mv rfl) (Rn.regEnd ?_))))))))))
  exact hn2 (i+1) _ _ (Sub.cons rfl (Sub.cons (lki _ rfl (by first | omega | rfl | (dsimp only; omega))) (Sub.cons (lki _ rfl (by first | omega | rfl | (dsimp only; omega))) (Sub.cons rfl (Sub.nil _))))) (⟨by omega, okC_take hz hall (by unfold okC; omega), rfl⟩) (by omega)
  refine Rn.v rfl rfl rfl rfl (V.mv rfl) (Rn.v rfl rfl rfl rfl (V.gtr rfl rfl) (Rn.v rfl rfl rfl rfl (V.pkF rfl rfl) (Rn.v rfl rfl rfl rfl (V.pkT rfl rfl) (Rn.v rfl rfl rfl rfl (V.mv rfl) ?_))))
  refine Rn.partD (t := 33) rfl (fun h8 => ?_) (fun h8 => ?_)
  refine Rn.v rfl rfl rfl rfl (V.mv rfl) (Rn.v rfl rfl rfl rfl (V.neq rfl rfl) (Rn.v rfl rfl rfl rfl (V.pkT rfl rfl) (Rn.v rfl rfl rfl rfl (V.mv rfl) ?_)))
  refine Rn.partD (t := 37) rfl (fun h9 => ?_) (fun h9 => ?_)
  refine Rn.v rfl rfl rfl rfl (V.mv rfl) (Rn.v rfl rfl rfl rfl (V.neq rfl rfl) (Rn.v rfl rfl rfl rfl (V.pkT rfl rfl) (Rn.regEnd ?_)))
  refine Rn.condD rfl (fun h10 => ?_) (fun h10 => ?_)
  refine Rn.seq (Rn.reg (Rn.v rfl rfl rfl rfl (V.as rfl) (Rn.regEnd ?_)))
  refine Rn.ret1 Tryz.func31 rfl rfl ?_
  exact ⟨by rw [isNm_bad l i z hz (by unfold okC; omega)], x1⟩
  refine Rn.skip (Rn.inBlock (Rn.reg (Rn.v rfl rfl rfl rfl (V.addI rfl rfl (w64 (by omega) (by omega))) (Rn.v rfl rfl rfl rfl (V.mv rfl) (Rn.regEnd ?_)))))
  exact hn2 (i+1) _ _ (Sub.cons rfl (Sub.cons (lki _ rfl (by first | omega | rfl | (dsimp only; omega))) (Sub.cons (lki _ rfl (by first | omega | rfl | (dsimp only; omega))) (Sub.cons rfl (Sub.nil _))))) (⟨by omega, okC_take hz hall (by unfold okC; omega), rfl⟩) (by omega)
  refine Rn.no rfl rfl rfl rfl (Rn.no rfl rfl rfl rfl (Rn.v rfl rfl rfl rfl (V.pkF rfl rfl) (Rn.regEnd (Rn.condF rfl (Rn.skip (Rn.inBlock (Rn.reg (Rn.v rfl rfl rfl rfl (V.addI rfl rfl (w64 (by omega) (by omega))) (Rn.v rfl rfl rfl rfl (V.mv rfl) (Rn.regEnd ?_))))))))))
  exact hn2 (i+1) _ _ (Sub.cons rfl (Sub.cons (lki _ rfl (by first | omega | rfl | (dsimp only; omega))) (Sub.cons (lki _ rfl (by first | omega | rfl | (dsimp only; omega))) (Sub.cons rfl (Sub.nil _))))) (⟨by omega, okC_take hz hall (by unfold okC; omega), rfl⟩) (by omega)
  refine Rn.no rfl rfl rfl rfl (Rn.no rfl rfl rfl rfl (Rn.v rfl rfl rfl rfl (V.pkF rfl rfl) (Rn.v rfl rfl rfl rfl (V.mv rfl) (Rn.no rfl rfl rfl rfl (Rn.no rfl rfl rfl rfl (Rn.v rfl rfl rfl rfl (V.pkF rfl rfl) (Rn.regEnd (Rn.condF rfl (Rn.skip (Rn.inBlock (Rn.reg (Rn.v rfl rfl rfl rfl (V.addI rfl rfl (w64 (by omega) (by omega))) (Rn.v rfl rfl rfl rfl (V.mv rfl) (Rn.regEnd ?_))))))))))))))
  exact hn2 (i+1) _ _ (Sub.cons rfl (Sub.cons (lki _ rfl (by first | omega | rfl | (dsimp only; omega))) (Sub.cons (lki _ rfl (by first | omega | rfl | (dsimp only; omega))) (Sub.cons rfl (Sub.nil _))))) (⟨by omega, okC_take hz hall (by unfold okC; omega), rfl⟩) (by omega)
  refine Rn.v rfl rfl rfl rfl (V.mv rfl) (Rn.v rfl rfl rfl rfl (V.gtr rfl rfl) (Rn.v rfl rfl rfl rfl (V.pkF rfl rfl) (Rn.v rfl rfl rfl rfl (V.mv rfl) ?_)))
  refine Rn.partD (t := 25) rfl (fun h11 => ?_) (fun h11 => ?_)
  refine Rn.v rfl rfl rfl rfl (V.mv rfl) (Rn.v rfl rfl rfl rfl (V.lss rfl rfl) (Rn.v rfl rfl rfl rfl (V.mv rfl) ?_))
  refine Rn.partD (t := 28) rfl (fun h12 => ?_) (fun h12 => ?_)
  refine Rn.no rfl rfl rfl rfl (Rn.no rfl rfl rfl rfl (Rn.v rfl rfl rfl rfl (V.pkT rfl rfl) (Rn.v rfl rfl rfl rfl (V.pkT rfl rfl) (Rn.v rfl rfl rfl rfl (V.mv rfl) (Rn.v rfl rfl rfl rfl (V.mv rfl) (Rn.v rfl rfl rfl rfl (V.neq rfl rfl) (Rn.v rfl rfl rfl rfl (V.pkT rfl rfl) (Rn.v rfl rfl rfl rfl (V.mv rfl) ?_))))))))
  refine Rn.partD (t := 37) rfl (fun h13 => ?_) (fun h13 => ?_)
  refine Rn.v rfl rfl rfl rfl (V.mv rfl) (Rn.v rfl rfl rfl rfl (V.neq rfl rfl) (Rn.v rfl rfl rfl rfl (V.pkT rfl rfl) (Rn.regEnd ?_)))
  refine Rn.condD rfl (fun h14 => ?_) (fun h14 => ?_)
  refine Rn.seq (Rn.reg (Rn.v rfl rfl rfl rfl (V.as rfl) (Rn.regEnd ?_)))
  refine Rn.ret1 Tryz.func31 rfl rfl ?_
  exact ⟨by rw [isNm_bad l i z hz (by unfold okC; omega)], x1⟩
  refine Rn.skip (Rn.inBlock (Rn.reg (Rn.v rfl rfl rfl rfl (V.addI rfl rfl (w64 (by omega) (by omega))) (Rn.v rfl rfl rfl rfl (V.mv rfl) (Rn.regEnd ?_)))))
  exact hn2 (i+1) _ _ (Sub.cons rfl (Sub.cons (lki _ rfl (by first | omega | rfl | (dsimp only; omega))) (Sub.cons (lki _ rfl (by first | omega | rfl | (dsimp only; omega))) (Sub.cons rfl (Sub.nil _))))) (⟨by omega, okC_take hz hall (by unfold okC; omega), rfl⟩) (by omega)
  refine Rn.no rfl rfl rfl rfl (Rn.no rfl rfl rfl rfl (Rn.v rfl rfl rfl rfl (V.pkF rfl rfl) (Rn.regEnd (Rn.condF rfl (Rn.skip (Rn.inBlock (Rn.reg (Rn.v rfl rfl rfl rfl (V.addI rfl rfl (w64 (by omega) (by omega))) (Rn.v rfl rfl rfl rfl (V.mv rfl) (Rn.regEnd ?_))))))))))
  exact hn2 (i+1) _ _ (Sub.cons rfl (Sub.cons (lki _ rfl (by first | omega | rfl | (dsimp only; omega))) (Sub.cons (lki _ rfl (by first | omega | rfl | (dsimp only; omega))) (Sub.cons rfl (Sub.nil _))))) (⟨by omega, okC_take hz hall (by unfold okC; omega), rfl⟩) (by omega)
  refine Rn.v rfl rfl rfl rfl (V.mv rfl) (Rn.v rfl rfl rfl rfl (V.gtr rfl rfl) (Rn.v rfl rfl rfl rfl (V.pkF rfl rfl) (Rn.v rfl rfl rfl rfl (V.pkT rfl rfl) (Rn.v rfl rfl rfl rfl (V.mv rfl) ?_))))
  refine Rn.partD (t := 33) rfl (fun h15 => ?_) (fun h15 => ?_)
  refine Rn.v rfl rfl rfl rfl (V.mv rfl) (Rn.v rfl rfl rfl rfl (V.neq rfl rfl) (Rn.v rfl rfl rfl rfl (V.pkT rfl rfl) (Rn.v rfl rfl rfl rfl (V.mv rfl) ?_)))
  refine Rn.partD (t := 37) rfl (fun h16 => ?_) (fun h16 => ?_)
  refine Rn.v rfl rfl rfl rfl (V.mv rfl) (Rn.v rfl rfl rfl rfl (V.neq rfl rfl) (Rn.v rfl rfl rfl rfl (V.pkT rfl rfl) (Rn.regEnd ?_)))
  refine Rn.condD rfl (fun h17 => ?_) (fun h17 => ?_)
  refine Rn.seq (Rn.reg (Rn.v rfl rfl rfl rfl (V.as rfl) (Rn.regEnd ?_)))
  refine Rn.ret1 Tryz.func31 rfl rfl ?_
  exact ⟨by rw [isNm_bad l i z hz (by unfold okC; omega)], x1⟩
  refine Rn.skip (Rn.inBlock (Rn.reg (Rn.v rfl rfl rfl rfl (V.addI rfl rfl (w64 (by omega) (by omega))) (Rn.v rfl rfl rfl rfl (V.mv rfl) (Rn.regEnd ?_)))))
  exact hn2 (i+1) _ _ (Sub.cons rfl (Sub.cons (lki _ rfl (by first | omega | rfl | (dsimp only; omega))) (Sub.cons (lki _ rfl (by first | omega | rfl | (dsimp only; omega))) (Sub.cons rfl (Sub.nil _))))) (⟨by omega, okC_take hz hall (by unfold okC; omega), rfl⟩) (by omega)
  refine Rn.no rfl rfl rfl rfl (Rn.no rfl rfl rfl rfl (Rn.v rfl rfl rfl rfl (V.pkF rfl rfl) (Rn.regEnd (Rn.condF rfl (Rn.skip (Rn.inBlock (Rn.reg (Rn.v rfl rfl rfl rfl (V.addI rfl rfl (w64 (by omega) (by omega))) (Rn.v rfl rfl rfl rfl (V.mv rfl) (Rn.regEnd ?_))))))))))
  exact hn2 (i+1) _ _ (Sub.cons rfl (Sub.cons (lki _ rfl (by first | omega | rfl | (dsimp only; omega))) (Sub.cons (lki _ rfl (by first | omega | rfl | (dsimp only; omega))) (Sub.cons rfl (Sub.nil _))))) (⟨by omega, okC_take hz hall (by unfold okC; omega), rfl⟩) (by omega)
  refine Rn.no rfl rfl rfl rfl (Rn.no rfl rfl rfl rfl (Rn.v rfl rfl rfl rfl (V.pkF rfl rfl) (Rn.v rfl rfl rfl rfl (V.mv rfl) (Rn.no rfl rfl rfl rfl (Rn.no rfl rfl rfl rfl (Rn.v rfl rfl rfl rfl (V.pkF rfl rfl) (Rn.regEnd (Rn.condF rfl (Rn.skip (Rn.inBlock (Rn.reg (Rn.v rfl rfl rfl rfl (V.addI rfl rfl (w64 (by omega) (by omega))) (Rn.v rfl rfl rfl rfl (V.mv rfl) (Rn.regEnd ?_))))))))))))))
  exact hn2 (i+1) _ _ (Sub.cons rfl (Sub.cons (lki _ rfl (by first | omega | rfl | (dsimp only; omega))) (Sub.cons (lki _ rfl (by first | omega | rfl | (dsimp only; omega))) (Sub.cons rfl (Sub.nil _))))) (⟨by omega, okC_take hz hall (by unfold okC; omega), rfl⟩) (by omega)
  refine Rn.no rfl rfl rfl rfl (Rn.no rfl rfl rfl rfl (Rn.no rfl rfl rfl rfl (Rn.no rfl rfl rfl rfl (Rn.no rfl rfl rfl rfl (Rn.no rfl rfl rfl rfl (Rn.v rfl rfl rfl rfl (V.pkF rfl rfl) (Rn.v rfl rfl rfl rfl (V.mv rfl) (Rn.no rfl rfl rfl rfl (Rn.no rfl rfl rfl rfl (Rn.v rfl rfl rfl rfl (V.pkF rfl rfl) (Rn.v rfl rfl rfl rfl (V.mv rfl) (Rn.no rfl rfl rfl rfl (Rn.no rfl rfl rfl rfl (Rn.v rfl rfl rfl rfl (V.pkF rfl rfl) (Rn.regEnd (Rn.condF rfl (Rn.skip (Rn.inBlock (Rn.reg (Rn.v rfl rfl rfl rfl (V.addI rfl rfl (w64 (by omega) (by omega))) (Rn.v rfl rfl rfl rfl (V.mv rfl) (Rn.regEnd ?_))))))))))))))))))))))
  exact hn2 (i+1) _ _ (Sub.cons rfl (Sub.cons (lki _ rfl (by first | omega | rfl | (dsimp only; omega))) (Sub.cons (lki _ rfl (by first | omega | rfl | (dsimp only; omega))) (Sub.cons rfl (Sub.nil _))))) (⟨by omega, okC_take hz hall (by unfold okC; omega), rfl⟩) (by omega)
  refine Rn.exit rfl (Rn.seq (Rn.reg (Rn.v rfl rfl rfl rfl (V.as rfl) (Rn.regEnd ?_))))
  refine Rn.ret1 Tryz.func31 rfl rfl ?_
  exact ⟨by rw [isNm_good l (by simpa using h1) (by omega) (by rwa [List.take_of_length_le (by omega)] at hall)], x1⟩

theorem ck76 : CallOk Tryz.prog 76 := ⟨_, _, Tryz.func76, rfl, by kernel_rfl⟩
theorem ck88 : CallOk Tryz.prog 88 := ⟨_, _, Tryz.func88, rfl, by kernel_rfl⟩
set_option maxRecDepth 20000 in
theorem open_spec {b mb : Nat} {ms : Ms} {ck : Nat} {bss : List (List Nat)} {F : Nat → Prop} {s : PD} (name : List UInt8) (w : World) (hc : s.calls < 4611686018427387904) (h : DkP 73 78 5 w b mb ms ck bss F s) :
Calls Tryz.prog 76 #[.pointer (some ⟨b, 0, none⟩), Str name] w fun x w' => DkP 73 78 5 w' b mb ms ck bss F s.begin.1 ∧ Fr (fun x => x = b) w w' ∧ ((s.begin.2 ≠ 0 ∧ x = .returned (.tuple #[.pointer none, .int .i64 s.begin.2])) ∨ (s.begin.2 = 0 ∧ lookM ms name = none ∧ findF name s.files = none ∧ x = .returned (.tuple #[.pointer none, .int .i64 7])) ∨
  (∃ fb f, s.begin.2 = 0 ∧ lookM ms name = some (.pointer (some ⟨fb, 0, none⟩)) ∧ findF name s.files = some f ∧ x = .returned (.tuple #[.pointer (some ⟨fb, 0, none⟩), .int .i64 0]))) := by
  obtain ⟨pv, hp1, hp2, hp3⟩ := h.ptr name
  refine Rn.enter Tryz.func76 rfl rfl (Nat.le_of_ble_eq_true rfl) ?_
  refine Rn.seq (Rn.reg (Rn.v rfl rfl rfl rfl (V.as rfl) (Rn.v rfl rfl rfl rfl (V.as rfl) (Rn.regEnd (Rn.seq (Rn.seq (Rn.reg (Rn.v rfl rfl rfl rfl (V.mv rfl) (Rn.cl ck88 rfl rfl rfl rfl (begin_spec _ hc h) ?_)))))))))
  rintro _ w1 ⟨rfl, d1, x1⟩
  have e1 : Fr (fun x => x = b) w w1 := ((Fr.refl _ _)).trans' x1 (fun x hx => by first | exact .inl hx | exact .inr (by subst hx; omega))
  refine ⟨_, rfl, ?_⟩
  refine Rn.v rfl rfl rfl rfl (V.as rfl) (Rn.regEnd (Rn.seq (Rn.reg (Rn.v rfl rfl rfl rfl (V.mv rfl) (Rn.v rfl rfl rfl rfl (V.neq rfl rfl) (Rn.regEnd ?_))))))
  refine Rn.condD rfl (fun q1 => ?_) (fun q1 => ?_)
  refine Rn.seq (Rn.reg (Rn.v rfl rfl rfl rfl (V.mv rfl) (Rn.v rfl rfl rfl rfl (V.as rfl) (Rn.v rfl rfl rfl rfl (V.as rfl) (Rn.regEnd ?_)))))
  refine Rn.ret2 Tryz.func76 rfl rfl rfl ?_
  exact ⟨d1, x1, .inl ⟨q1, rfl⟩⟩
  have q1' : s.begin.2 = 0 := Decidable.of_not_not q1
  have hB1 := d1.blk
  have hM1 := d1.map
  refine Rn.skip (Rn.seq (Rn.reg (Rn.v rfl rfl rfl rfl (V.mv rfl) (Rn.v rfl rfl rfl rfl (V.nil rfl) (Rn.v rfl rfl rfl rfl (V.fa Tryz.underlying73 rfl Tryz.sizeOf69 rfl rfl) (Rn.v rfl rfl rfl rfl (V.ldB Tryz.isAgg69 rfl hB1 rfl) (Rn.v rfl rfl rfl rfl (V.mv rfl) (Rn.v rfl rfl rfl rfl (V.to (V.lkp Tryz.underlying69 Tryz.underlying9 Tryz.zeroValue75 rfl rfl hM1) hp1) (Rn.v rfl rfl rfl rfl (V.as rfl) (Rn.regEnd (Rn.seq (Rn.seq (Rn.reg (Rn.v rfl rfl rfl rfl (V.mv rfl) (Rn.v rfl rfl rfl rfl (V.eqlP Tryz.underlying75 rfl rfl) (Rn.regEnd ?_))))))))))))))))
  refine Rn.condS rfl (fun q2 => ?_) (fun q2 => ?_)
  refine Rn.seq (Rn.reg (Rn.v rfl rfl rfl rfl (V.as rfl) (Rn.v rfl rfl rfl rfl (V.as rfl) (Rn.regEnd ?_))))
  refine Rn.ret2 Tryz.func76 rfl rfl rfl ?_
  exact ⟨d1, x1, .inr (.inl ⟨q1', (hp2 q2).1, (hp2 q2).2, rfl⟩)⟩
  obtain ⟨pa, ff, rfl, hq1, hq2⟩ := hp3 q2
  refine Rn.skip (Rn.seq (Rn.reg (Rn.v rfl rfl rfl rfl (V.mv rfl) (Rn.v rfl rfl rfl rfl (V.as rfl) (Rn.v rfl rfl rfl rfl (V.as rfl) (Rn.regEnd ?_))))))
  refine Rn.ret2 Tryz.func76 rfl rfl rfl ?_
  exact ⟨d1, x1, .inr (.inr ⟨pa, ff, q1', hq1, hq2, rfl⟩)⟩

set_option maxRecDepth 20000 in
theorem look_spec {b mb : Nat} {ms : Ms} {ck : Nat} {bss : List (List Nat)} {F : Nat → Prop} {s : PD} (name : List UInt8) (w : World) (h : DkP 73 78 5 w b mb ms ck bss F s) :
Calls Tryz.prog 83 #[.pointer (some ⟨b, 0, none⟩), Str name] w fun x w' => Ext w w' ∧ ((s.down = true ∧ x = .returned (.tuple #[.pointer none, .int .i64 13])) ∨ (s.down = false ∧ findF name s.files = none ∧ x = .returned (.tuple #[.pointer none, .int .i64 7])) ∨
  (∃ fb f, s.down = false ∧ lookM ms name = some (.pointer (some ⟨fb, 0, none⟩)) ∧ findF name s.files = some f ∧ x = .returned (.tuple #[.pointer (some ⟨fb, 0, none⟩), .int .i64 0]))) := by
  obtain ⟨pv, hp1, hp2, hp3⟩ := h.ptr name
  have hB := h.blk
  have hM := h.map
  refine Rn.enter Tryz.func83 rfl rfl (Nat.le_of_ble_eq_true rfl) ?_
  refine Rn.seq (Rn.reg (Rn.v rfl rfl rfl rfl (V.as rfl) (Rn.v rfl rfl rfl rfl (V.as rfl) (Rn.regEnd (Rn.seq (Rn.seq (Rn.reg (Rn.v rfl rfl rfl rfl (V.mv rfl) (Rn.v rfl rfl rfl rfl (V.nil rfl) (Rn.v rfl rfl rfl rfl (V.fa Tryz.underlying73 rfl Tryz.sizeOf4 rfl rfl) (Rn.v rfl rfl rfl rfl (V.ldB Tryz.isAgg4 rfl hB rfl) (Rn.regEnd ?_))))))))))))
  refine Rn.condS rfl (fun q1 => ?_) (fun q1 => ?_)
  refine Rn.seq (Rn.reg (Rn.v rfl rfl rfl rfl (V.as rfl) (Rn.v rfl rfl rfl rfl (V.as rfl) (Rn.regEnd ?_))))
  refine Rn.ret2 Tryz.func83 rfl rfl rfl ?_
  exact ⟨Ext.refl _, .inl ⟨q1, rfl⟩⟩
  refine Rn.skip (Rn.seq (Rn.reg (Rn.v rfl rfl rfl rfl (V.mv rfl) (Rn.v rfl rfl rfl rfl (V.nil rfl) (Rn.v rfl rfl rfl rfl (V.fa Tryz.underlying73 rfl Tryz.sizeOf69 rfl rfl) (Rn.v rfl rfl rfl rfl (V.ldB Tryz.isAgg69 rfl hB rfl) (Rn.v rfl rfl rfl rfl (V.mv rfl) (Rn.v rfl rfl rfl rfl (V.to (V.lkp Tryz.underlying69 Tryz.underlying9 Tryz.zeroValue75 rfl rfl hM) hp1) (Rn.v rfl rfl rfl rfl (V.as rfl) (Rn.regEnd (Rn.seq (Rn.seq (Rn.reg (Rn.v rfl rfl rfl rfl (V.mv rfl) (Rn.v rfl rfl rfl rfl (V.eqlP Tryz.underlying75 rfl rfl) (Rn.regEnd ?_))))))))))))))))
  refine Rn.condS rfl (fun q2 => ?_) (fun q2 => ?_)
  refine Rn.seq (Rn.reg (Rn.v rfl rfl rfl rfl (V.as rfl) (Rn.v rfl rfl rfl rfl (V.as rfl) (Rn.regEnd ?_))))
  refine Rn.ret2 Tryz.func83 rfl rfl rfl ?_
  exact ⟨Ext.refl _, .inr (.inl ⟨q1, (hp2 q2).2, rfl⟩)⟩
  obtain ⟨pa, ff, rfl, hq1, hq2⟩ := hp3 q2
  refine Rn.skip (Rn.seq (Rn.reg (Rn.v rfl rfl rfl rfl (V.mv rfl) (Rn.v rfl rfl rfl rfl (V.as rfl) (Rn.v rfl rfl rfl rfl (V.as rfl) (Rn.regEnd ?_))))))
  refine Rn.ret2 Tryz.func83 rfl rfl rfl ?_
  exact ⟨Ext.refl _, .inr (.inr ⟨pa, ff, q1, hq1, hq2, rfl⟩)⟩

set_option maxRecDepth 20000 in
theorem down_spec {b : Nat} {F : Nat → Prop} {s : PD} (w : World) (h : DkAt 73 78 5 w b F s) :
Calls Tryz.prog 38 #[.pointer (some ⟨b, 0, none⟩)] w fun x w' => x = .returned (.bool s.down) ∧ w = w' := by
  obtain ⟨mb, ms, ck, bss, h⟩ := h
  have hB := h.blk
  refine Rn.enter Tryz.func38 rfl rfl (Nat.le_of_ble_eq_true rfl) ?_
  refine Rn.seq (Rn.reg (Rn.v rfl rfl rfl rfl (V.as rfl) (Rn.regEnd (Rn.seq (Rn.reg (Rn.v rfl rfl rfl rfl (V.mv rfl) (Rn.v rfl rfl rfl rfl (V.nil rfl) (Rn.v rfl rfl rfl rfl (V.fa Tryz.underlying73 rfl Tryz.sizeOf4 rfl rfl) (Rn.v rfl rfl rfl rfl (V.ldB Tryz.isAgg4 rfl hB rfl) (Rn.v rfl rfl rfl rfl (V.as rfl) (Rn.regEnd ?_)))))))))))
  refine Rn.ret1 Tryz.func38 rfl rfl ?_
  exact ⟨rfl, rfl⟩

set_option maxRecDepth 20000 in
theorem remove_spec {b : Nat} {F : Nat → Prop} {s : PD} (name : List UInt8) (w : World) (hc : s.calls < 4611686018427387904) (h : DkAt 73 78 5 w b F s) :
Calls Tryz.prog 43 #[.pointer (some ⟨b, 0, none⟩), Str name] w fun x w' => x = .returned (.int .i64 (s.remove name).2) ∧ ∃ F', DkAt 73 78 5 w' b F' (s.remove name).1 ∧ Fr F w w' ∧ (∀ x, F' x → F x ∨ w.heap.size ≤ x) := by
  obtain ⟨mb, ms, ck, bss, h⟩ := h
  have hFb := h.sub b (by simp)
  have hFm := h.sub mb (by simp)
  refine Rn.enter Tryz.func43 rfl rfl (Nat.le_of_ble_eq_true rfl) ?_
  refine Rn.seq (Rn.reg (Rn.v rfl rfl rfl rfl (V.as rfl) (Rn.regEnd (Rn.seq (Rn.reg (Rn.v rfl rfl rfl rfl (V.mv rfl) (Rn.v rfl rfl rfl rfl (V.mv rfl) (Rn.cl ck76 rfl rfl rfl rfl (open_spec _ _ hc h) ?_))))))))
  rintro _ w1 ⟨d1, x1, (⟨hb1, rfl⟩ | ⟨hb1, hl1, hf1, rfl⟩ | ⟨fb1, f1, hb1, hl1, hf1, rfl⟩)⟩
  have e1 : Fr F w w1 := ((Fr.refl _ _)).trans' x1 (fun x hx => by first | (subst hx; exact .inl hFb) | (subst hx; exact .inl hFm))
  refine ⟨_, rfl, ?_⟩
  refine Rn.v rfl rfl rfl rfl (V.mv rfl) (Rn.v rfl rfl rfl rfl (V.ext rfl rfl) (Rn.v rfl rfl rfl rfl (V.ext rfl rfl) (Rn.v rfl rfl rfl rfl (V.as rfl) (Rn.v rfl rfl rfl rfl (V.as rfl) (Rn.regEnd (Rn.seq (Rn.seq (Rn.reg (Rn.v rfl rfl rfl rfl (V.mv rfl) (Rn.v rfl rfl rfl rfl (V.eql rfl rfl) (Rn.regEnd ?_)))))))))))
  refine Rn.condD rfl (fun q1 => ?_) (fun q1 => ?_)
  exact absurd q1 hb1
  refine Rn.skip (Rn.seq (Rn.reg (Rn.v rfl rfl rfl rfl (V.mv rfl) (Rn.v rfl rfl rfl rfl (V.as rfl) (Rn.regEnd ?_)))))
  refine Rn.ret1 Tryz.func43 rfl rfl ?_
  have hr : s.remove name = s.begin := if_pos hb1
  exact ⟨by rw [hr]; first | done | rfl, F, by rw [hr]; exact ⟨mb, ms, ck, bss, d1⟩, e1, fun x hx => .inl hx⟩
  have e1 : Fr F w w1 := ((Fr.refl _ _)).trans' x1 (fun x hx => by first | (subst hx; exact .inl hFb) | (subst hx; exact .inl hFm))
  refine ⟨_, rfl, ?_⟩
  refine Rn.v rfl rfl rfl rfl (V.mv rfl) (Rn.v rfl rfl rfl rfl (V.ext rfl rfl) (Rn.v rfl rfl rfl rfl (V.ext rfl rfl) (Rn.v rfl rfl rfl rfl (V.as rfl) (Rn.v rfl rfl rfl rfl (V.as rfl) (Rn.regEnd (Rn.seq (Rn.seq (Rn.reg (Rn.v rfl rfl rfl rfl (V.mv rfl) (Rn.v rfl rfl rfl rfl (V.eql rfl rfl) (Rn.regEnd ?_)))))))))))
  refine Rn.condD rfl (fun q1 => ?_) (fun q1 => ?_)
  exact absurd q1 (by decide)
  refine Rn.skip (Rn.seq (Rn.reg (Rn.v rfl rfl rfl rfl (V.mv rfl) (Rn.v rfl rfl rfl rfl (V.as rfl) (Rn.regEnd ?_)))))
  refine Rn.ret1 Tryz.func43 rfl rfl ?_
  have hr : s.remove name = (s.begin.1, 7) := by unfold PD.remove; rw [if_neg (fun hh => hh hb1), hf1]
  exact ⟨by rw [hr]; first | done | rfl, F, by rw [hr]; exact ⟨mb, ms, ck, bss, d1⟩, e1, fun x hx => .inl hx⟩
  have e1 : Fr F w w1 := ((Fr.refl _ _)).trans' x1 (fun x hx => by first | (subst hx; exact .inl hFb) | (subst hx; exact .inl hFm))
  obtain ⟨g1, A1, c1, hff1, hfB1, hO1, hfb1, hFf1, hfm1, hoA1, ht1⟩ := d1.turn hl1
  rw [PD.begin_files, hf1] at hff1
  cases hff1
  refine ⟨_, rfl, ?_⟩
  have hr : s.remove name = ({ s.begin.1 with files := delF name s.files }, 0) := by unfold PD.remove; rw [if_neg (fun hh => hh hb1), hf1]
  have hB1 := d1.blk
  have hM1 := d1.map
  refine Rn.v rfl rfl rfl rfl (V.mv rfl) (Rn.v rfl rfl rfl rfl (V.ext rfl rfl) (Rn.v rfl rfl rfl rfl (V.ext rfl rfl) (Rn.v rfl rfl rfl rfl (V.as rfl) (Rn.v rfl rfl rfl rfl (V.as rfl) (Rn.regEnd (Rn.seq (Rn.seq (Rn.reg (Rn.v rfl rfl rfl rfl (V.mv rfl) (Rn.v rfl rfl rfl rfl (V.eql rfl rfl) (Rn.regEnd ?_)))))))))))
  refine Rn.condD rfl (fun q1 => ?_) (fun q1 => ?_)
  refine Rn.reg (Rn.v rfl rfl rfl rfl (V.mv rfl) (Rn.v rfl rfl rfl rfl (V.nil rfl) (Rn.v rfl rfl rfl rfl (V.fa Tryz.underlying73 rfl Tryz.sizeOf69 rfl rfl) (Rn.v rfl rfl rfl rfl (V.ldB Tryz.isAgg69 rfl hB1 rfl) (Rn.v rfl rfl rfl rfl (V.mv rfl) (Rn.del rfl rfl rfl Tryz.underlying69 Tryz.underlying9 rfl rfl hM1 ?_))))))
  intro w2 m2 x2
  have e2 : Fr F w w2 := (e1).trans' x2 (fun x hx => by first | (subst hx; exact .inl hFb) | (subst hx; exact .inl hFm))
  refine Rn.regEnd (Rn.seq (Rn.reg (Rn.v rfl rfl rfl rfl (V.mv rfl) (Rn.v rfl rfl rfl rfl (V.as rfl) (Rn.regEnd ?_)))))
  refine Rn.ret1 Tryz.func43 rfl rfl ?_
  obtain ⟨f, bs, bss', _, _, hd, _, _, _⟩ := d1.del hl1 x2 (fun x _ hx => hx) m2 rfl
  rw [PD.begin_files] at hd
  exact ⟨by rw [hr]; first | done | rfl, F, by rw [hr]; exact ⟨_, _, _, _, hd⟩, e2, fun x hx => .inl hx⟩
  exact absurd rfl q1

theorem ck89 : CallOk Tryz.prog 89 := ⟨_, _, Tryz.func89, rfl, by kernel_rfl⟩
set_option maxRecDepth 20000 in
theorem used_spec {b mb : Nat} {ms : Ms} {ck : Nat} {bss : List (List Nat)} {F : Nat → Prop} {s : PD} (u : Nat) (w : World) (hu : u = if s.down = true then 0 else s.used) (hok : s.used ≤ s.cap ∧ s.cap ≤ 4194304) (h : DkP 73 78 5 w b mb ms ck bss F s) :
Calls Tryz.prog 89 #[.pointer (some ⟨b, 0, none⟩)] w fun x w' => x = .returned (.int .i64 u) ∧ Ext w w' := by
  have hB := h.blk
  have hM := h.map
  have hlb := h.lt b (h.sub b (by simp))
  have hlm := h.lt mb (h.sub mb (by simp))
  refine Rn.enter Tryz.func89 rfl rfl (Nat.le_of_ble_eq_true rfl) ?_
  refine Rn.seq (Rn.reg (Rn.v rfl rfl rfl rfl (V.as rfl) (Rn.regEnd (Rn.seq (Rn.seq (Rn.reg (Rn.v rfl rfl rfl rfl (V.mv rfl) (Rn.v rfl rfl rfl rfl (V.nil rfl) (Rn.v rfl rfl rfl rfl (V.fa Tryz.underlying73 rfl Tryz.sizeOf4 rfl rfl) (Rn.v rfl rfl rfl rfl (V.ldB Tryz.isAgg4 rfl hB rfl) (Rn.regEnd ?_)))))))))))
  refine Rn.condS rfl (fun q1 => ?_) (fun q1 => ?_)
  refine Rn.seq (Rn.reg (Rn.v rfl rfl rfl rfl (V.as rfl) (Rn.regEnd ?_)))
  refine Rn.ret1 Tryz.func89 rfl rfl ?_
  exact ⟨by rw [hu, if_pos q1]; rfl, Ext.refl _⟩
  refine Rn.skip (Rn.seq (Rn.reg (Rn.v rfl rfl rfl rfl (V.as rfl) (Rn.regEnd (Rn.seq (Rn.seq (Rn.reg (Rn.v rfl rfl rfl rfl (V.mv rfl) (Rn.v rfl rfl rfl rfl (V.nil rfl) (Rn.v rfl rfl rfl rfl (V.fa Tryz.underlying73 rfl Tryz.sizeOf69 rfl rfl) (Rn.v rfl rfl rfl rfl (V.ldB Tryz.isAgg69 rfl hB rfl) (Rn.rng rfl rfl rfl Tryz.underlying69 rfl hM ?_))))))))))))
  intro b1 w1 hb1 i1 x1
  have hs1 := x1.size
  refine Rn.regEnd (Rn.block ?_)
  refine Rn.loopI (G := (Nat × List Nat)) (fun g => [(3, .int .i64 (g.1)), (14, .pointer (some ⟨b1, 0, none⟩)), (0, .pointer (some ⟨b, 0, none⟩))]) (fun g w' => Itr w' b1 mb ck (g.2) ∧ (g.1) + ((leftM ms (g.2)).map fun p => szF s.files p.1).sum = s.used ∧ Ext w w') (fun g => (leftM ms (g.2)).length) (0, []) ?_ ?_ ?_
  · exact Sub.cons (lki _ rfl (by first | omega | rfl | (dsimp only; omega))) (Sub.cons rfl (Sub.cons rfl (Sub.nil _)))
  · exact ⟨i1, by rw [leftM_nil, ← h.used_eq]; omega, x1⟩
  rintro ⟨a, sn⟩ w2 ⟨i2, hsum, x2⟩ hn2
  show Rn _ _ _ _ _ [(3, .int .i64 a), (14, .pointer (some ⟨b1, 0, none⟩)), (0, .pointer (some ⟨b, 0, none⟩))] _
  have hs2 := x2.size
  refine Rn.seq (Rn.reg ?_)
  refine Rn.nxt rfl rfl rfl rfl (hM.ext x2) i2 h.born (fun hle => ?_) (fun p3 w3 hp3 i3 x3 => ?_)
  refine Rn.v rfl rfl rfl rfl (V.ext rfl rfl) (Rn.regEnd (Rn.seq (Rn.condF rfl (Rn.exit rfl (Rn.seq (Rn.reg (Rn.v rfl rfl rfl rfl (V.mv rfl) (Rn.v rfl rfl rfl rfl (V.as rfl) (Rn.regEnd ?_)))))))))
  refine Rn.ret1 Tryz.func89 rfl rfl ?_
  rw [hle] at hsum
  exact ⟨by rw [hu, if_neg (by simp [q1]), ← hsum]; simp, x2⟩
  have e3 : Ext w w3 := (x2).trans' x3 (fun x hx => .inr (by subst hx; omega))
  have hs3 := x3.size
  dsimp only at hp3 i3 hsum
  obtain ⟨fb, f, A, c, hpv, hff, hsz, hfB, hFf⟩ := h.entry (leftM_sub hp3)
  have hlf := h.lt fb hFf
  obtain ⟨hls, hll⟩ := leftM_sum (fun p => szF s.files p.1) h.bnd hp3
  rw [hsz] at hls
  refine Rn.v rfl rfl rfl rfl (V.ext rfl rfl) (Rn.regEnd (Rn.seq (Rn.condT rfl (Rn.skip (Rn.block (Rn.seq (Rn.reg (Rn.v rfl rfl rfl rfl (V.entry rfl (hM.ext e3) i3 (leftM_sub hp3) h.bnd) (Rn.v rfl rfl rfl rfl (V.to (V.ext rfl rfl) hpv) (Rn.v rfl rfl rfl rfl (V.as rfl) (Rn.regEnd (Rn.reg (Rn.v rfl rfl rfl rfl (V.mv rfl) (Rn.v rfl rfl rfl rfl (V.mv rfl) (Rn.v rfl rfl rfl rfl (V.nil rfl) (Rn.v rfl rfl rfl rfl (V.fa Tryz.underlying78 rfl Tryz.sizeOf51 rfl rfl) (Rn.v rfl rfl rfl rfl (V.ldB Tryz.isAgg51 rfl (hfB.ext e3) rfl) (Rn.v rfl rfl rfl rfl (V.lenV Tryz.underlying51 rfl) (Rn.v rfl rfl rfl rfl (V.addI rfl rfl (w64 (by omega) (by omega))) (Rn.v rfl rfl rfl rfl (V.as rfl) (Rn.regEnd (Rn.inBlock ?_))))))))))))))))))))))
  exact hn2 (a + f.data.length, sn ++ [p3.2.2]) _ _ (Sub.cons (lki _ rfl (by first | omega | rfl | (dsimp only; omega))) (Sub.cons rfl (Sub.cons rfl (Sub.nil _)))) (⟨i3, by dsimp only; omega, e3⟩) (by dsimp only; omega)

set_option maxRecDepth 20000 in
theorem sync_spec {b : Nat} {F : Nat → Prop} {s : PD} (name : List UInt8) (w : World) (hc : s.calls < 4611686018427387904) (h : DkAt 73 78 5 w b F s) :
Calls Tryz.prog 60 #[.pointer (some ⟨b, 0, none⟩), Str name] w fun x w' => x = .returned (.int .i64 (s.sync name).2) ∧ ∃ F', DkAt 73 78 5 w' b F' (s.sync name).1 ∧ Fr F w w' ∧ (∀ x, F' x → F x ∨ w.heap.size ≤ x) := by
  obtain ⟨mb, ms, ck, bss, h⟩ := h
  have hFb := h.sub b (by simp)
  have hFm := h.sub mb (by simp)
  refine Rn.enter Tryz.func60 rfl rfl (Nat.le_of_ble_eq_true rfl) ?_
  refine Rn.seq (Rn.reg (Rn.v rfl rfl rfl rfl (V.as rfl) (Rn.regEnd (Rn.seq (Rn.reg (Rn.v rfl rfl rfl rfl (V.mv rfl) (Rn.v rfl rfl rfl rfl (V.mv rfl) (Rn.cl ck76 rfl rfl rfl rfl (open_spec _ _ hc h) ?_))))))))
  rintro _ w1 ⟨d1, x1, (⟨hb1, rfl⟩ | ⟨hb1, hl1, hf1, rfl⟩ | ⟨fb1, f1, hb1, hl1, hf1, rfl⟩)⟩
  have e1 : Fr F w w1 := ((Fr.refl _ _)).trans' x1 (fun x hx => by first | (subst hx; exact .inl hFb) | (subst hx; exact .inl hFm))
  refine ⟨_, rfl, ?_⟩
  refine Rn.v rfl rfl rfl rfl (V.mv rfl) (Rn.v rfl rfl rfl rfl (V.ext rfl rfl) (Rn.v rfl rfl rfl rfl (V.ext rfl rfl) (Rn.v rfl rfl rfl rfl (V.as rfl) (Rn.v rfl rfl rfl rfl (V.as rfl) (Rn.regEnd (Rn.seq (Rn.seq (Rn.reg (Rn.v rfl rfl rfl rfl (V.mv rfl) (Rn.v rfl rfl rfl rfl (V.eql rfl rfl) (Rn.regEnd ?_)))))))))))
  refine Rn.condD rfl (fun q1 => ?_) (fun q1 => ?_)
  exact absurd q1 hb1
  refine Rn.skip (Rn.seq (Rn.reg (Rn.v rfl rfl rfl rfl (V.mv rfl) (Rn.v rfl rfl rfl rfl (V.as rfl) (Rn.regEnd ?_)))))
  refine Rn.ret1 Tryz.func60 rfl rfl ?_
  have hr : s.sync name = s.begin := if_pos hb1
  exact ⟨by rw [hr]; first | done | rfl, F, by rw [hr]; exact ⟨mb, ms, ck, bss, d1⟩, e1, fun x hx => .inl hx⟩
  have e1 : Fr F w w1 := ((Fr.refl _ _)).trans' x1 (fun x hx => by first | (subst hx; exact .inl hFb) | (subst hx; exact .inl hFm))
  refine ⟨_, rfl, ?_⟩
  refine Rn.v rfl rfl rfl rfl (V.mv rfl) (Rn.v rfl rfl rfl rfl (V.ext rfl rfl) (Rn.v rfl rfl rfl rfl (V.ext rfl rfl) (Rn.v rfl rfl rfl rfl (V.as rfl) (Rn.v rfl rfl rfl rfl (V.as rfl) (Rn.regEnd (Rn.seq (Rn.seq (Rn.reg (Rn.v rfl rfl rfl rfl (V.mv rfl) (Rn.v rfl rfl rfl rfl (V.eql rfl rfl) (Rn.regEnd ?_)))))))))))
  refine Rn.condD rfl (fun q1 => ?_) (fun q1 => ?_)
  exact absurd q1 (by decide)
  refine Rn.skip (Rn.seq (Rn.reg (Rn.v rfl rfl rfl rfl (V.mv rfl) (Rn.v rfl rfl rfl rfl (V.as rfl) (Rn.regEnd ?_)))))
  refine Rn.ret1 Tryz.func60 rfl rfl ?_
  have hr : s.sync name = (s.begin.1, 7) := by unfold PD.sync; rw [if_neg (fun hh => hh hb1), hf1]
  exact ⟨by rw [hr]; first | done | rfl, F, by rw [hr]; exact ⟨mb, ms, ck, bss, d1⟩, e1, fun x hx => .inl hx⟩
  have e1 : Fr F w w1 := ((Fr.refl _ _)).trans' x1 (fun x hx => by first | (subst hx; exact .inl hFb) | (subst hx; exact .inl hFm))
  obtain ⟨g1, A1, c1, hff1, hfB1, hO1, hfb1, hFf1, hfm1, hoA1, ht1⟩ := d1.turn hl1
  rw [PD.begin_files, hf1] at hff1
  cases hff1
  refine ⟨_, rfl, ?_⟩
  have hr : s.sync name = ({ s.begin.1 with files := putF name ⟨f1.data, f1.data.length⟩ s.files }, 0) := by unfold PD.sync; rw [if_neg (fun hh => hh hb1), hf1]
  refine Rn.v rfl rfl rfl rfl (V.mv rfl) (Rn.v rfl rfl rfl rfl (V.ext rfl rfl) (Rn.v rfl rfl rfl rfl (V.ext rfl rfl) (Rn.v rfl rfl rfl rfl (V.as rfl) (Rn.v rfl rfl rfl rfl (V.as rfl) (Rn.regEnd (Rn.seq (Rn.seq (Rn.reg (Rn.v rfl rfl rfl rfl (V.mv rfl) (Rn.v rfl rfl rfl rfl (V.eql rfl rfl) (Rn.regEnd ?_)))))))))))
  refine Rn.condD rfl (fun q1 => ?_) (fun q1 => ?_)
  refine Rn.reg (Rn.v rfl rfl rfl rfl (V.mv rfl) (Rn.v rfl rfl rfl rfl (V.mv rfl) (Rn.v rfl rfl rfl rfl (V.nil rfl) (Rn.v rfl rfl rfl rfl (V.fa Tryz.underlying78 rfl Tryz.sizeOf51 rfl rfl) (Rn.v rfl rfl rfl rfl (V.ldB Tryz.isAgg51 rfl hfB1 rfl) (Rn.v rfl rfl rfl rfl (V.lenV Tryz.underlying51 rfl) (Rn.v rfl rfl rfl rfl (V.nil rfl) (Rn.v rfl rfl rfl rfl (V.fa Tryz.underlying78 rfl Tryz.sizeOf3 rfl rfl) (Rn.st rfl rfl Tryz.sizeOf3 rfl rfl rfl rfl (by first | exact ones rfl | (simp [Value.oneCell']; done)) hfB1 (by first | exact Nat.le_of_ble_eq_true rfl | (simp; done)) ?_)))))))))
  intro w2 m2 x2
  have e2 : Fr F w w2 := (e1).trans' x2 (fun x hx => by subst hx; exact .inl hFf1)
  refine Rn.regEnd (Rn.seq (Rn.reg (Rn.v rfl rfl rfl rfl (V.mv rfl) (Rn.v rfl rfl rfl rfl (V.as rfl) (Rn.regEnd ?_)))))
  refine Rn.ret1 Tryz.func60 rfl rfl ?_
  obtain ⟨bss', hd⟩ := ht1 w2 ⟨f1.data, f1.data.length⟩ A1 c1 _ m2 (hO1.fr x2 (fun _ hh => hh.elim) (fun x hx hh => (hoA1 x hx).2.1 hh)) (fun x hx => ⟨(hoA1 x hx).2.1, .inl hx⟩) (x2.mono fun x hx => .inl hx) rfl
  rw [PD.begin_files] at hd
  exact ⟨by rw [hr]; first | done | rfl, fun x => F x ∨ ob A1 x, by rw [hr]; exact ⟨_, _, _, _, hd⟩, e2, fun x hx => .inl (by rcases hx with hh | hh; exact hh; exact (hoA1 x hh).1)⟩
  exact absurd rfl q1

set_option maxRecDepth 20000 in
theorem append_spec {b : Nat} {F : Nat → Prop} {s : PD} {D : Nat → Prop} (name l : List UInt8) (A : Option Addr) (c m : Nat) (w : World) (hc : s.calls < 4611686018427387904) (hok : s.used ≤ s.cap ∧ s.cap ≤ 4194304) (hl : l.length ≤ 4294967296) (hm : l.length = m) (hS : Sl D w A byteR l) (hD : ∀ x, D x → ¬ F x) (h : DkAt 73 78 5 w b F s) :
Calls Tryz.prog 59 #[.pointer (some ⟨b, 0, none⟩), Str name, .slice A m c] w fun x w' => x = .returned (.int .i64 (s.append name l).2) ∧ ∃ F', DkAt 73 78 5 w' b F' (s.append name l).1 ∧ Fr F w w' ∧ (∀ x, F' x → F x ∨ w.heap.size ≤ x) := by
  subst hm
  obtain ⟨mb, ms, ck, bss, h⟩ := h
  have hFb := h.sub b (by simp)
  have hFm := h.sub mb (by simp)
  refine Rn.enter Tryz.func59 rfl rfl (Nat.le_of_ble_eq_true rfl) ?_
  refine Rn.seq (Rn.reg (Rn.v rfl rfl rfl rfl (V.as rfl) (Rn.regEnd (Rn.seq (Rn.reg (Rn.v rfl rfl rfl rfl (V.mv rfl) (Rn.v rfl rfl rfl rfl (V.mv rfl) (Rn.cl ck76 rfl rfl rfl rfl (open_spec _ _ hc h) ?_))))))))
  rintro _ w1 ⟨d1, x1, (⟨hb1, rfl⟩ | ⟨hb1, hl1, hf1, rfl⟩ | ⟨fb1, f1, hb1, hl1, hf1, rfl⟩)⟩
  have e1 : Fr F w w1 := ((Fr.refl _ _)).trans' x1 (fun x hx => by first | (subst hx; exact .inl hFb) | (subst hx; exact .inl hFm))
  refine ⟨_, rfl, ?_⟩
  refine Rn.v rfl rfl rfl rfl (V.mv rfl) (Rn.v rfl rfl rfl rfl (V.ext rfl rfl) (Rn.v rfl rfl rfl rfl (V.ext rfl rfl) (Rn.v rfl rfl rfl rfl (V.as rfl) (Rn.v rfl rfl rfl rfl (V.as rfl) (Rn.regEnd (Rn.seq (Rn.seq (Rn.reg (Rn.v rfl rfl rfl rfl (V.mv rfl) (Rn.v rfl rfl rfl rfl (V.neq rfl rfl) (Rn.regEnd ?_)))))))))))
  refine Rn.condD rfl (fun q1 => ?_) (fun q1 => ?_)
  refine Rn.seq (Rn.reg (Rn.v rfl rfl rfl rfl (V.mv rfl) (Rn.v rfl rfl rfl rfl (V.as rfl) (Rn.regEnd ?_))))
  refine Rn.ret1 Tryz.func59 rfl rfl ?_
  have hr : s.append name l = s.begin := if_pos hb1
  exact ⟨by rw [hr]; first | done | rfl, F, by rw [hr]; exact ⟨mb, ms, ck, bss, d1⟩, e1, fun x hx => .inl hx⟩
  exact absurd hb1 q1
  have e1 : Fr F w w1 := ((Fr.refl _ _)).trans' x1 (fun x hx => by first | (subst hx; exact .inl hFb) | (subst hx; exact .inl hFm))
  refine ⟨_, rfl, ?_⟩
  refine Rn.v rfl rfl rfl rfl (V.mv rfl) (Rn.v rfl rfl rfl rfl (V.ext rfl rfl) (Rn.v rfl rfl rfl rfl (V.ext rfl rfl) (Rn.v rfl rfl rfl rfl (V.as rfl) (Rn.v rfl rfl rfl rfl (V.as rfl) (Rn.regEnd (Rn.seq (Rn.seq (Rn.reg (Rn.v rfl rfl rfl rfl (V.mv rfl) (Rn.v rfl rfl rfl rfl (V.neq rfl rfl) (Rn.regEnd ?_)))))))))))
  refine Rn.condD rfl (fun q1 => ?_) (fun q1 => ?_)
  refine Rn.seq (Rn.reg (Rn.v rfl rfl rfl rfl (V.mv rfl) (Rn.v rfl rfl rfl rfl (V.as rfl) (Rn.regEnd ?_))))
  refine Rn.ret1 Tryz.func59 rfl rfl ?_
  have hr : s.append name l = (s.begin.1, 7) := by unfold PD.append; rw [if_neg (fun hh => hh hb1), hf1]
  exact ⟨by rw [hr]; first | done | rfl, F, by rw [hr]; exact ⟨mb, ms, ck, bss, d1⟩, e1, fun x hx => .inl hx⟩
  exact absurd (by decide) q1
  have e1 : Fr F w w1 := ((Fr.refl _ _)).trans' x1 (fun x hx => by first | (subst hx; exact .inl hFb) | (subst hx; exact .inl hFm))
  obtain ⟨g1, A1, c1, hff1, hfB1, hO1, hfb1, hFf1, hfm1, hoA1, ht1⟩ := d1.turn hl1
  rw [PD.begin_files, hf1] at hff1
  cases hff1
  refine ⟨_, rfl, ?_⟩
  refine Rn.v rfl rfl rfl rfl (V.mv rfl) (Rn.v rfl rfl rfl rfl (V.ext rfl rfl) (Rn.v rfl rfl rfl rfl (V.ext rfl rfl) (Rn.v rfl rfl rfl rfl (V.as rfl) (Rn.v rfl rfl rfl rfl (V.as rfl) (Rn.regEnd (Rn.seq (Rn.seq (Rn.reg (Rn.v rfl rfl rfl rfl (V.mv rfl) (Rn.v rfl rfl rfl rfl (V.neq rfl rfl) (Rn.regEnd ?_)))))))))))
  refine Rn.condD rfl (fun q1 => ?_) (fun q1 => ?_)
  exact absurd rfl q1
  have hfl := find_le_used hf1
  have hlt1 := hfB1.lt
  have hcp : s.begin.1.cap = s.cap := s.begin_cap
  have hup := s.begin_up hb1
  have hus := s.begin_used
  have hB1 := d1.blk
  have hM1 := d1.map
  refine Rn.skip (Rn.seq (Rn.seq ?_))
  refine Rn.drawE rfl ?_
  intro w2 x2
  have hs2 := x2.size
  refine RH.take 0 (by kernel_rfl) rfl rfl rfl rfl (fun w' hDr => V.mv rfl) ?_
  refine RH.take 1 (by kernel_rfl) rfl rfl rfl rfl (fun w' hDr => V.lenV Tryz.underlying51 rfl) ?_
  refine RH.take 2 (by kernel_rfl) rfl rfl rfl rfl (fun w' hDr => V.mv rfl) ?_
  refine RH.take 3 (by kernel_rfl) rfl rfl rfl rfl (fun w' hDr => V.nil rfl) ?_
  refine RH.take 4 (by kernel_rfl) rfl rfl rfl rfl (fun w' hDr => V.fa Tryz.underlying73 rfl Tryz.sizeOf3 rfl rfl) ?_
  refine RH.take 5 (by kernel_rfl) rfl rfl rfl rfl (fun w' hDr => V.ldB Tryz.isAgg3 rfl ((hB1.ext x2).ext hDr) rfl) ?_
  refine RH.take 6 (by kernel_rfl) rfl rfl rfl rfl (fun w' hDr => V.mv rfl) ?_
  refine RH.cl ck89 7 (by kernel_rfl) rfl rfl rfl rfl (used_spec s.used _ (by rw [if_neg (by simp [hup]), hus]) (by omega) (d1.ext x2)) ?_
  rintro _ w3 ⟨rfl, x3⟩
  have hs3 := x3.size
  refine ⟨_, rfl, x3, ?_⟩
  refine RH.take 8 (by kernel_rfl) rfl rfl rfl rfl (fun w' hDr => V.subI rfl rfl (w64 (by omega) (by omega))) ?_
  refine RH.take 9 (by kernel_rfl) rfl rfl rfl rfl (fun w' hDr => V.gtr rfl rfl) ?_
  refine RH.done (by kernel_rfl) (fun xd3 => ?_)
  refine Rn.condD rfl (fun q2 => ?_) (fun q2 => ?_)
  refine Rn.seq (Rn.reg (Rn.v rfl rfl rfl rfl (V.as rfl) (Rn.regEnd ?_)))
  refine Rn.ret1 Tryz.func59 rfl rfl ?_
  have hr : s.append name l = (s.begin.1, 12) := by unfold PD.append; rw [if_neg (fun hh => hh hb1), hf1]; exact if_pos (by omega)
  exact ⟨by rw [hr]; first | done | rfl, F, by rw [hr]; exact ⟨mb, ms, ck, bss, ((d1.ext x2).ext x3)⟩, ((e1.trans (Ext.fr x2)).trans (Ext.fr x3)), fun x hx => .inl hx⟩
  have hr : s.append name l = ({ s.begin.1 with files := putF name ⟨f1.data ++ l, f1.sure⟩ s.files }, 0) := by unfold PD.append; rw [if_neg (fun hh => hh hb1), hf1]; exact if_neg (by omega)
  refine Rn.skip (Rn.seq (Rn.reg (Rn.v rfl rfl rfl rfl (V.mv rfl) (Rn.v rfl rfl rfl rfl (V.mv rfl) (Rn.v rfl rfl rfl rfl (V.nil rfl) (Rn.v rfl rfl rfl rfl (V.fa Tryz.underlying78 rfl Tryz.sizeOf51 rfl rfl) (Rn.v rfl rfl rfl rfl (V.ldB Tryz.isAgg51 rfl ((hfB1.ext x2).ext x3) rfl) (Rn.v rfl rfl rfl rfl (V.mv rfl) (Rn.appF byte_flat rfl rfl rfl Tryz.underlying51 el5 rfl rfl rfl ((hO1.ext x2).ext x3) (hS.fr ((e1.trans (Ext.fr x2)).trans (Ext.fr x3)) hD) rfl (by first | exact (((e1.trans (Ext.fr x2)).trans (Ext.fr x3))).size | exact Nat.zero_le _) (by first | omega | (simp; done) | (simp; omega)) (by first | omega | (simp; done) | (simp; omega)) ?_)))))))))
  intro A4 c4 w4 o4 x4 q4
  have e4 : Fr F w w4 := (((e1.trans (Ext.fr x2)).trans (Ext.fr x3))).trans' x4 (fun x hx => by first | exact .inl (hoA1 _ hx).1 | (subst hx; exact .inl hFf1))
  have hs4 := x4.size
  refine Rn.v rfl rfl rfl rfl (V.nil rfl) (Rn.v rfl rfl rfl rfl (V.fa Tryz.underlying78 rfl Tryz.sizeOf51 rfl rfl) (Rn.st rfl rfl Tryz.sizeOf51 rfl rfl rfl rfl (by first | exact ones rfl | (simp [Value.oneCell']; done)) (((hfB1.ext x2).ext x3).fr x4 (fun hh => (hoA1 _ hh).2.1 rfl)) (by first | exact Nat.le_of_ble_eq_true rfl | (simp; done)) ?_))
  intro w5 m5 x5
  have e5 : Fr F w w5 := (e4).trans' x5 (fun x hx => by first | exact .inl (hoA1 _ hx).1 | (subst hx; exact .inl hFf1))
  have hs5 := x5.size
  refine Rn.regEnd (Rn.seq (Rn.reg (Rn.v rfl rfl rfl rfl (V.as rfl) (Rn.regEnd ?_))))
  refine Rn.ret1 Tryz.func59 rfl rfl ?_
  have hlen : f1.data.length + l.length = (f1.data ++ l).length := by simp
  rw [hlen] at m5
  have hqk := q4
  obtain ⟨bss', hd⟩ := ht1 w5 ⟨f1.data ++ l, f1.sure⟩ A4 c4 _ m5 (o4.fr x5 (fun _ hh => hh.elim) (fun x hx hh => by rcases hqk x hx with h3 | h3; exact (hoA1 x h3).2.1 hh; omega)) (fun x hx => ⟨fun hh => (by rcases hqk x hx with h3 | h3; exact (hoA1 x h3).2.1 hh; omega), by rcases hqk x hx with h3 | h3; exact .inl h3; exact .inr (by omega)⟩) (((((Fr.refl (fun x => x = fb1 ∨ ob A1 x) _).trans (Ext.fr x2)).trans (Ext.fr x3)).trans (x4.mono (fun y hy => by first | exact .inl hy | exact .inr hy | exact hy))).trans (x5.mono (fun y hy => by first | exact .inl hy | exact .inr hy | exact hy))) rfl
  rw [PD.begin_files] at hd
  exact ⟨by rw [hr]; first | done | rfl, fun x => F x ∨ ob A4 x, by rw [hr]; exact ⟨_, _, _, _, hd⟩, e5, fun x hx => by rcases hx with hh | hh; exact .inl hh; rcases hqk x hh with h3 | h3; exact .inl (hoA1 x h3).1; exact .inr (by have := (e1).size; omega)⟩

theorem ck31 : CallOk Tryz.prog 31 := ⟨_, _, Tryz.func31, rfl, by kernel_rfl⟩
theorem st78 : StOk Tryz.prog 78 [.slice none 0 0, .int .i64 0] [(0, 1), (1, 1)] := ⟨Tryz.zeroValue78, _, Tryz.underlying78, fun w => by kernel_rfl⟩
set_option maxRecDepth 20000 in
theorem create_spec {b : Nat} {F : Nat → Prop} {s : PD} (name : List UInt8) (w : World) (hc : s.calls < 4611686018427387904) (h : DkAt 73 78 5 w b F s) :
Calls Tryz.prog 58 #[.pointer (some ⟨b, 0, none⟩), Str name] w fun x w' => x = .returned (.int .i64 (s.create name).2) ∧ ∃ F', DkAt 73 78 5 w' b F' (s.create name).1 ∧ Fr F w w' ∧ (∀ x, F' x → F x ∨ w.heap.size ≤ x) := by
  obtain ⟨mb, ms, ck, bss, h⟩ := h
  have hFb := h.sub b (by simp)
  have hFm := h.sub mb (by simp)
  refine Rn.enter Tryz.func58 rfl rfl (Nat.le_of_ble_eq_true rfl) ?_
  refine Rn.seq (Rn.reg (Rn.v rfl rfl rfl rfl (V.as rfl) (Rn.regEnd (Rn.seq (Rn.reg (Rn.v rfl rfl rfl rfl (V.mv rfl) (Rn.cl ck88 rfl rfl rfl rfl (begin_spec _ hc h) ?_)))))))
  rintro _ w1 ⟨rfl, d1, x1⟩
  have e1 : Fr F w w1 := ((Fr.refl _ _)).trans' x1 (fun x hx => by first | (subst hx; exact .inl hFb) | (subst hx; exact .inl hFm))
  have hs1 := x1.size
  refine ⟨_, rfl, ?_⟩
  refine Rn.v rfl rfl rfl rfl (V.as rfl) (Rn.regEnd (Rn.seq (Rn.block (Rn.seq (Rn.reg (Rn.v rfl rfl rfl rfl (V.mv rfl) (Rn.v rfl rfl rfl rfl (V.neq rfl rfl) (Rn.v rfl rfl rfl rfl (V.as rfl) (Rn.regEnd ?_)))))))))
  have hB1 := d1.blk
  have hM1 := d1.map
  obtain ⟨pv, hp1, hp2, hp3⟩ := d1.ptr name
  refine Rn.condD rfl (fun q1 => ?_) (fun q1 => ?_)
  refine Rn.seq (Rn.reg (Rn.v rfl rfl rfl rfl (V.mv rfl) (Rn.v rfl rfl rfl rfl (V.as rfl) (Rn.regEnd ?_))))
  refine Rn.ret1 Tryz.func58 rfl rfl ?_
  have hr : s.create name = s.begin := if_pos q1
  exact ⟨by rw [hr]; first | done | rfl, F, by rw [hr]; exact ⟨_, _, _, _, d1⟩, e1, fun x hx => .inl hx⟩
  refine Rn.seq (Rn.reg (Rn.v rfl rfl rfl rfl (V.mv rfl) (Rn.cl ck31 rfl rfl rfl rfl (isName_spec _ _) ?_)))
  rintro _ w2 ⟨rfl, x2⟩
  have hs2 := x2.size
  refine ⟨_, rfl, ?_⟩
  refine Rn.v rfl rfl rfl rfl (V.notB rfl) (Rn.v rfl rfl rfl rfl (V.as rfl) (Rn.regEnd ?_))
  refine Rn.condS rfl (fun q2 => ?_) (fun q2 => ?_)
  refine Rn.seq (Rn.reg (Rn.v rfl rfl rfl rfl (V.as rfl) (Rn.regEnd ?_)))
  refine Rn.ret1 Tryz.func58 rfl rfl ?_
  have hr : s.create name = (s.begin.1, 3) := by unfold PD.create; rw [if_neg q1, if_pos (by simpa using q2)]
  exact ⟨by rw [hr]; first | done | rfl, F, by rw [hr]; exact ⟨_, _, _, _, (d1.ext x2)⟩, (e1.trans (Ext.fr x2)), fun x hx => .inl hx⟩
  refine Rn.seq (Rn.reg (Rn.v rfl rfl rfl rfl (V.mv rfl) (Rn.v rfl rfl rfl rfl (V.nil rfl) (Rn.v rfl rfl rfl rfl (V.fa Tryz.underlying73 rfl Tryz.sizeOf69 rfl rfl) (Rn.v rfl rfl rfl rfl (V.ldB Tryz.isAgg69 rfl (hB1.ext x2) rfl) (Rn.v rfl rfl rfl rfl (V.mv rfl) (Rn.v rfl rfl rfl rfl (V.to (V.lkp Tryz.underlying69 Tryz.underlying9 Tryz.zeroValue75 rfl rfl (hM1.ext x2)) hp1) (Rn.v rfl rfl rfl rfl (V.neqP Tryz.underlying75 rfl rfl) (Rn.v rfl rfl rfl rfl (V.as rfl) (Rn.regEnd ?_))))))))))
  refine Rn.condS rfl (fun q3 => ?_) (fun q3 => ?_)
  refine Rn.seq (Rn.reg (Rn.v rfl rfl rfl rfl (V.as rfl) (Rn.regEnd ?_)))
  refine Rn.ret1 Tryz.func58 rfl rfl ?_
  obtain ⟨_, ff, _, _, hff⟩ := hp3 (by cases pv with | none => simp at q3 | some a => rfl)
  rw [PD.begin_files] at hff
  have hr : s.create name = (s.begin.1, 8) := by unfold PD.create; rw [if_neg q1, if_neg (fun hh => by rw [hh] at q2; simp at q2), if_pos (by rw [hff]; rfl)]
  exact ⟨by rw [hr]; first | done | rfl, F, by rw [hr]; exact ⟨_, _, _, _, (d1.ext x2)⟩, (e1.trans (Ext.fr x2)), fun x hx => .inl hx⟩
  obtain ⟨hlk, hfn⟩ := hp2 (by cases pv with | none => rfl | some a => simp at q3)
  rw [PD.begin_files] at hfn
  have hlen := d1.files.length
  rw [PD.begin_files] at hlen
  refine Rn.seq (Rn.reg (Rn.v rfl rfl rfl rfl (V.mv rfl) (Rn.v rfl rfl rfl rfl (V.nil rfl) (Rn.v rfl rfl rfl rfl (V.fa Tryz.underlying73 rfl Tryz.sizeOf69 rfl rfl) (Rn.v rfl rfl rfl rfl (V.ldB Tryz.isAgg69 rfl (hB1.ext x2) rfl) (Rn.v rfl rfl rfl rfl (V.lenM Tryz.underlying69 rfl (hM1.ext x2)) (Rn.v rfl rfl rfl rfl (V.eql rfl rfl) (Rn.v rfl rfl rfl rfl (V.as rfl) (Rn.regEnd ?_)))))))))
  refine Rn.condD rfl (fun q4 => ?_) (fun q4 => ?_)
  refine Rn.seq (Rn.reg (Rn.v rfl rfl rfl rfl (V.as rfl) (Rn.regEnd ?_)))
  refine Rn.ret1 Tryz.func58 rfl rfl ?_
  have hr : s.create name = (s.begin.1, 6) := by unfold PD.create; rw [if_neg q1, if_neg (fun hh => by rw [hh] at q2; simp at q2), if_neg (by simp [hfn]), if_pos (by omega)]
  exact ⟨by rw [hr]; first | done | rfl, F, by rw [hr]; exact ⟨_, _, _, _, (d1.ext x2)⟩, (e1.trans (Ext.fr x2)), fun x hx => .inl hx⟩
  have hr : s.create name = ({ s.begin.1 with files := putF name ⟨[], 0⟩ s.files }, 0) := by unfold PD.create; rw [if_neg q1, if_neg (fun hh => by rw [hh] at q2; simp at q2), if_neg (by simp [hfn]), if_neg (by omega)]
  have d0 := (d1.ext x2)
  refine Rn.skip (Rn.inBlock (Rn.seq (Rn.reg (Rn.v rfl rfl rfl rfl (V.mv rfl) (Rn.v rfl rfl rfl rfl (V.nil rfl) (Rn.v rfl rfl rfl rfl (V.fa Tryz.underlying73 rfl Tryz.sizeOf69 rfl rfl) (Rn.v rfl rfl rfl rfl (V.ldB Tryz.isAgg69 rfl (hB1.ext x2) rfl) (Rn.v rfl rfl rfl rfl (V.mv rfl) (Rn.v rfl rfl rfl rfl (V.bldS st78 rfl rfl) (Rn.box rfl rfl rfl rfl rfl ?_))))))))))
  intro b3 w3 hb3 m3 x3
  have hz3 : w.heap.size ≤ b3 := by have := ((e1.trans (Ext.fr x2))).size; omega
  have hl3 : b3 < w3.heap.size := m3.lt
  have hs3 := x3.size
  refine Rn.mu rfl rfl Tryz.underlying69 Tryz.underlying9 rfl rfl rfl ((hM1.ext x2).ext x3) ?_
  intro k4 w4 m4 x4 hk4
  have e4 : Fr F w w4 := (((e1.trans (Ext.fr x2)).trans (Ext.fr x3))).trans' x4 (fun x hx => by first | (subst hx; exact .inl hFb) | (subst hx; exact .inl hFm))
  have hs4 := x4.size
  refine Rn.regEnd (Rn.seq (Rn.reg (Rn.v rfl rfl rfl rfl (V.as rfl) (Rn.regEnd ?_))))
  refine Rn.ret1 Tryz.func58 rfl rfl ?_
  have hlt0 := d0.lt
  have hsub := d0.sub
  have hkk : b3 < w3.heap.size := m3.lt
  obtain ⟨bss', hd⟩ := d0.put (name := name) (f := ⟨[], 0⟩) (bs := [b3]) (((Fr.refl (fun x => x = mb) _).trans (Ext.fr x3)).trans (x4.mono (fun y hy => by first | exact .inl hy | exact .inr hy | exact hy))) (fun x _ hx => hx) m4 hk4 ⟨b3, none, 0, rfl, m3.fr x4 (fun hh => by have := hlt0 mb hFm; omega), Own.nil _ _ _ _ _, rfl⟩ (by simp) (fun x hx => by simp at hx; subst hx; exact ⟨fun hh => by have := hlt0 b hFb; omega, fun hh => by have := hlt0 mb hFm; omega, fun hh => by have := hlt0 _ (hsub _ (List.mem_cons_of_mem _ (List.mem_cons_of_mem _ hh))); omega, by omega⟩) rfl
  rw [PD.begin_files] at hd
  have hX := (e4).size
  exact ⟨by rw [hr]; first | done | rfl, _, by rw [hr]; exact ⟨_, _, _, _, hd⟩, e4, fun x hx => by rcases hx with hh | hh; exact .inl hh; simp at hh; exact .inr (by omega)⟩

theorem ck32 : CallOk Tryz.prog 32 := ⟨_, _, Tryz.func32, rfl, by kernel_rfl⟩
theorem ck83 : CallOk Tryz.prog 83 := ⟨_, _, Tryz.func83, rfl, by kernel_rfl⟩
set_option maxRecDepth 20000 in
theorem read_spec {b : Nat} {F : Nat → Prop} {s : PD} (name : List UInt8) (w : World) (hok : s.used ≤ s.cap ∧ s.cap ≤ 4194304) (h : DkAt 73 78 5 w b F s) :
Calls Tryz.prog 51 #[.pointer (some ⟨b, 0, none⟩), Str name] w fun x w' => Ext w w' ∧ ((s.down = true ∧ x = .returned (.tuple #[.slice none 0 0, .int .i64 13])) ∨ (s.down = false ∧ findF name s.files = none ∧ x = .returned (.tuple #[.slice none 0 0, .int .i64 7])) ∨
  (∃ f A c, s.down = false ∧ findF name s.files = some f ∧ x = .returned (.tuple #[.slice A f.data.length c, .int .i64 0]) ∧ Own w.heap.size No w' 5 A c byteR f.data)) := by
  obtain ⟨mb, ms, ck, bss, h⟩ := h
  refine Rn.enter Tryz.func51 rfl rfl (Nat.le_of_ble_eq_true rfl) ?_
  refine Rn.seq (Rn.reg (Rn.v rfl rfl rfl rfl (V.as rfl) (Rn.v rfl rfl rfl rfl (V.as rfl) (Rn.regEnd (Rn.seq (Rn.reg (Rn.v rfl rfl rfl rfl (V.mv rfl) (Rn.v rfl rfl rfl rfl (V.mv rfl) (Rn.cl ck83 rfl rfl rfl rfl (look_spec _ _ h) ?_)))))))))
  rintro _ w1 ⟨x1, (⟨hb1, rfl⟩ | ⟨hb1, hf1, rfl⟩ | ⟨fb1, f1, hb1, hl1, hf1, rfl⟩)⟩
  refine ⟨_, rfl, ?_⟩
  refine Rn.v rfl rfl rfl rfl (V.mv rfl) (Rn.v rfl rfl rfl rfl (V.ext rfl rfl) (Rn.v rfl rfl rfl rfl (V.ext rfl rfl) (Rn.v rfl rfl rfl rfl (V.as rfl) (Rn.v rfl rfl rfl rfl (V.as rfl) (Rn.regEnd (Rn.seq (Rn.seq (Rn.reg (Rn.v rfl rfl rfl rfl (V.mv rfl) (Rn.v rfl rfl rfl rfl (V.neq rfl rfl) (Rn.regEnd ?_)))))))))))
  refine Rn.condD rfl (fun q1 => ?_) (fun q1 => ?_)
  refine Rn.seq (Rn.reg (Rn.v rfl rfl rfl rfl (V.mv rfl) (Rn.v rfl rfl rfl rfl (V.as rfl) (Rn.v rfl rfl rfl rfl (V.as rfl) (Rn.regEnd ?_)))))
  refine Rn.ret2 Tryz.func51 rfl rfl rfl ?_
  exact ⟨x1, .inl ⟨hb1, rfl⟩⟩
  exact absurd (by decide) q1
  refine ⟨_, rfl, ?_⟩
  refine Rn.v rfl rfl rfl rfl (V.mv rfl) (Rn.v rfl rfl rfl rfl (V.ext rfl rfl) (Rn.v rfl rfl rfl rfl (V.ext rfl rfl) (Rn.v rfl rfl rfl rfl (V.as rfl) (Rn.v rfl rfl rfl rfl (V.as rfl) (Rn.regEnd (Rn.seq (Rn.seq (Rn.reg (Rn.v rfl rfl rfl rfl (V.mv rfl) (Rn.v rfl rfl rfl rfl (V.neq rfl rfl) (Rn.regEnd ?_)))))))))))
  refine Rn.condD rfl (fun q1 => ?_) (fun q1 => ?_)
  refine Rn.seq (Rn.reg (Rn.v rfl rfl rfl rfl (V.mv rfl) (Rn.v rfl rfl rfl rfl (V.as rfl) (Rn.v rfl rfl rfl rfl (V.as rfl) (Rn.regEnd ?_)))))
  refine Rn.ret2 Tryz.func51 rfl rfl rfl ?_
  exact ⟨x1, .inr (.inl ⟨hb1, hf1, rfl⟩)⟩
  exact absurd (by decide) q1
  obtain ⟨g1, A1, c1, hff1, hfB1, hO1, hfb1, hFf1, hfm1, hoA1, ht1⟩ := h.turn hl1
  rw [hf1] at hff1
  cases hff1
  refine ⟨_, rfl, ?_⟩
  refine Rn.v rfl rfl rfl rfl (V.mv rfl) (Rn.v rfl rfl rfl rfl (V.ext rfl rfl) (Rn.v rfl rfl rfl rfl (V.ext rfl rfl) (Rn.v rfl rfl rfl rfl (V.as rfl) (Rn.v rfl rfl rfl rfl (V.as rfl) (Rn.regEnd (Rn.seq (Rn.seq (Rn.reg (Rn.v rfl rfl rfl rfl (V.mv rfl) (Rn.v rfl rfl rfl rfl (V.neq rfl rfl) (Rn.regEnd ?_)))))))))))
  refine Rn.condD rfl (fun q1 => ?_) (fun q1 => ?_)
  exact absurd rfl q1
  have hfl := find_le_used hf1
  refine Rn.skip (Rn.seq (Rn.reg (Rn.v rfl rfl rfl rfl (V.mv rfl) (Rn.v rfl rfl rfl rfl (V.nil rfl) (Rn.v rfl rfl rfl rfl (V.fa Tryz.underlying78 rfl Tryz.sizeOf51 rfl rfl) (Rn.v rfl rfl rfl rfl (V.ldB Tryz.isAgg51 rfl (hfB1.ext x1) rfl) (Rn.cl ck32 rfl rfl rfl rfl (clone_spec _ _ _ _ (by omega) (hO1.ext x1).sl) ?_)))))))
  rintro _ w2 ⟨A2, c2, rfl, o2, x2⟩
  refine ⟨_, rfl, ?_⟩
  refine Rn.v rfl rfl rfl rfl (V.as rfl) (Rn.v rfl rfl rfl rfl (V.as rfl) (Rn.regEnd ?_))
  refine Rn.ret2 Tryz.func51 rfl rfl rfl ?_
  exact ⟨(x1.trans x2), .inr (.inr ⟨f1, A2, c2, hb1, hf1, rfl, o2.lower x1.size⟩)⟩

theorem st73 : StOk Tryz.prog 73 [.map none, .int .i64 0, .bool false, .int .i64 0, .int .i64 0, .int .i64 0, .int .i64 0, .int .i64 0] [(0, 1), (1, 1), (2, 1), (3, 1), (4, 2), (6, 2)] := ⟨Tryz.zeroValue73, _, Tryz.underlying73, fun w => by kernel_rfl⟩
set_option maxRecDepth 20000 in
theorem dnew_spec {D : Nat → Prop} (A : Option Addr) (c m : Nat) (files : List AFile) (cap : Int) (w : World) (hl : files.length ≤ 4294967296) (hm : files.length = m) (hS : Sl D w A afileR files) :
Calls Tryz.prog 11 #[.slice A m c, .int .i64 cap] w fun x w' => ((x = .returned (.pointer none) ∧ newD files cap = none) ∨ (∃ s b F, newD files cap = some s ∧ x = .returned (.pointer (some ⟨b, 0, none⟩)) ∧ DkAt 73 78 5 w' b F s ∧ (∀ x, F x → w.heap.size ≤ x))) ∧ Ext w w' := by
  subst hm
  refine Rn.enter Tryz.func11 rfl rfl (Nat.le_of_ble_eq_true rfl) ?_
  refine Rn.seq (Rn.reg (Rn.v rfl rfl rfl rfl (V.as rfl) (Rn.regEnd (Rn.seq (Rn.seq (Rn.reg (Rn.v rfl rfl rfl rfl (V.mv rfl) (Rn.v rfl rfl rfl rfl (V.lss rfl rfl) (Rn.v rfl rfl rfl rfl (V.mv rfl) ?_)))))))))
  refine Rn.partD (t := 11) rfl (fun h1 => ?_) (fun h1 => ?_)
  refine Rn.no rfl rfl rfl rfl (Rn.no rfl rfl rfl rfl (Rn.v rfl rfl rfl rfl (V.pkT rfl rfl) (Rn.v rfl rfl rfl rfl (V.mv rfl) (Rn.no rfl rfl rfl rfl (Rn.no rfl rfl rfl rfl (Rn.no rfl rfl rfl rfl (Rn.v rfl rfl rfl rfl (V.pkT rfl rfl) (Rn.regEnd (Rn.condT rfl (Rn.seq (Rn.reg (Rn.v rfl rfl rfl rfl (V.as rfl) (Rn.regEnd ?_)))))))))))))
  refine Rn.ret1 Tryz.func11 rfl rfl ?_
  exact ⟨.inl ⟨rfl, if_pos (by omega)⟩, Ext.refl _⟩
  refine Rn.v rfl rfl rfl rfl (V.mv rfl) (Rn.v rfl rfl rfl rfl (V.gtr rfl rfl) (Rn.v rfl rfl rfl rfl (V.pkF rfl rfl) (Rn.v rfl rfl rfl rfl (V.mv rfl) ?_)))
  refine Rn.partD (t := 15) rfl (fun h2 => ?_) (fun h2 => ?_)
  refine Rn.no rfl rfl rfl rfl (Rn.no rfl rfl rfl rfl (Rn.no rfl rfl rfl rfl (Rn.v rfl rfl rfl rfl (V.pkT rfl rfl) (Rn.regEnd (Rn.condT rfl (Rn.seq (Rn.reg (Rn.v rfl rfl rfl rfl (V.as rfl) (Rn.regEnd ?_)))))))))
  refine Rn.ret1 Tryz.func11 rfl rfl ?_
  exact ⟨.inl ⟨rfl, if_pos (by omega)⟩, Ext.refl _⟩
  refine Rn.v rfl rfl rfl rfl (V.mv rfl) (Rn.v rfl rfl rfl rfl (V.lenV Tryz.underlying25 rfl) (Rn.v rfl rfl rfl rfl (V.gtr rfl rfl) (Rn.v rfl rfl rfl rfl (V.pkF rfl rfl) (Rn.regEnd ?_))))
  refine Rn.condD rfl (fun h3 => ?_) (fun h3 => ?_)
  refine Rn.seq (Rn.reg (Rn.v rfl rfl rfl rfl (V.as rfl) (Rn.regEnd ?_)))
  refine Rn.ret1 Tryz.func11 rfl rfl ?_
  exact ⟨.inl ⟨rfl, if_pos (by omega)⟩, Ext.refl _⟩
  obtain ⟨cn, rfl⟩ : ∃ cn : Nat, cap = cn := ⟨cap.toNat, by omega⟩
  have hnd : newD files cn = (addAll cn files [] 0).map fun l => PD.fresh l cn := by unfold newD; rw [if_neg (by omega), Int.toNat_natCast]
  refine Rn.skip (Rn.seq (Rn.reg (Rn.mkM rfl rfl rfl ?_)))
  intro b1 w1 hb1 m1 x1
  have hz1 : w.heap.size ≤ b1 := by omega
  have hl1 : b1 < w1.heap.size := m1.lt
  have hs1 := x1.size
  refine Rn.v rfl rfl rfl rfl (V.mv rfl) (Rn.v rfl rfl rfl rfl (V.bldS st73 rfl rfl) (Rn.box rfl rfl rfl rfl rfl ?_))
  intro b2 w2 hb2 m2 x2
  have hz2 : w.heap.size ≤ b2 := by have := (x1).size; omega
  have hl2 : b2 < w2.heap.size := m2.lt
  have hs2 := x2.size
  refine Rn.v rfl rfl rfl rfl (V.as rfl) (Rn.regEnd (Rn.seq (Rn.reg (Rn.v rfl rfl rfl rfl (V.as rfl) (Rn.regEnd (Rn.seq (Rn.seq (Rn.reg (Rn.v rfl rfl rfl rfl (V.mv rfl) (Rn.v rfl rfl rfl rfl (V.lenV Tryz.underlying25 rfl) (Rn.v rfl rfl rfl rfl (V.mv rfl) (Rn.regEnd (Rn.block ?_)))))))))))))
  have d0 : DkAt 73 78 5 w2 b2 (fun x => x = b2 ∨ x = b1) (PD.fresh [] cn) := ⟨b1, [], 0, [], ⟨m2, m1.ext x2, trivial, by simp; omega, by simp, by simp, by simp, fun x hx => by simpa using hx, fun x hx => by have := m2.lt; have := m1.lt; rcases hx with rfl | rfl <;> omega⟩⟩
  refine Rn.loopI (G := (Nat × Fl × Nat)) (fun g => [(5, .pointer (some ⟨b2, 0, none⟩)), (6, .int .i64 (g.2.2)), (24, .slice A files.length c), (25, .int .i64 files.length), (26, .int .i64 (g.1)), (0, .slice A files.length c), (1, .int .i64 cn)]) (fun g w' => (g.1) ≤ files.length ∧ (g.2.2) ≤ cn ∧ addAll cn (files.drop (g.1)) (g.2.1) (g.2.2) = addAll cn files [] 0 ∧ (∃ F, DkAt 73 78 5 w' b2 F (PD.fresh (g.2.1) cn) ∧ (∀ x, F x → w.heap.size ≤ x)) ∧ Ext w w') (fun g => files.length - (g.1)) (0, [], 0) ?_ ?_ ?_
  · exact Sub.cons rfl (Sub.cons (lki _ rfl (by first | omega | rfl | (dsimp only; omega))) (Sub.cons rfl (Sub.cons (lki _ rfl (by first | omega | rfl | (dsimp only; omega))) (Sub.cons (lki _ rfl (by first | omega | rfl | (dsimp only; omega))) (Sub.cons rfl (Sub.cons (lki _ rfl (by first | omega | rfl | (dsimp only; omega))) (Sub.nil _)))))))
  · exact ⟨by simp, by simp, rfl, ⟨_, d0, fun x hx => by rcases hx with rfl | rfl <;> omega⟩, (x1.trans x2)⟩
  rintro ⟨i, l, u⟩ w3 ⟨hi, hu, hadd, ⟨F3, ⟨mb3, ms3, ck3, bss3, d3⟩, hF3⟩, x3⟩ hn3
  show Rn _ _ _ _ _ [(5, .pointer (some ⟨b2, 0, none⟩)), (6, .int .i64 u), (24, .slice A files.length c), (25, .int .i64 files.length), (26, .int .i64 i), (0, .slice A files.length c), (1, .int .i64 cn)] _
  have hs3 := x3.size
  dsimp only at hi hu hadd d3
  refine Rn.seq (Rn.reg (Rn.v rfl rfl rfl rfl (V.lss rfl rfl) (Rn.regEnd (Rn.seq ?_))))
  refine Rn.condD rfl (fun hlt => ?_) (fun hlt => ?_)
  obtain ⟨z, hz⟩ : ∃ z, files[i]? = some z := ⟨_, List.getElem?_eq_getElem (by omega)⟩
  have hdr := drop_of_get hz
  rw [hdr] at hadd
  have hB := d3.blk
  have hM := d3.map
  obtain ⟨pv, hp1, hp2, hp3⟩ := d3.ptr z.1
  refine Rn.skip (Rn.seq (Rn.block (Rn.seq (Rn.reg (Rn.ix i z rfl rfl rfl Tryz.underlying25 Tryz.sizeOf68 rfl rfl (hS.ext x3) rfl hz rfl (by omega) ?_)))))
  rintro b4 o4 vs4 r4 ⟨_, _, rfl, ⟨rfl, _⟩, Ad, cd, rfl, hld, hcd, sd⟩ hD4
  refine Rn.v rfl rfl rfl rfl (V.ldA Tryz.isAgg68 Tryz.sizeOf68 rfl r4 rfl) (Rn.als rfl rfl rfl Tryz.zeroValue68 rfl Tryz.sizeOf68 rfl rfl rfl rfl (by first | exact ones rfl | (simp [Value.oneCell']; done)) ?_)
  intro b5 w5 hb5 m5 x5
  have hz5 : w.heap.size ≤ b5 := by have := (x3).size; omega
  have hl5 : b5 < w5.heap.size := m5.lt
  have hs5 := x5.size
  refine Rn.regEnd (Rn.seq (Rn.seq ?_))
  refine Rn.drawE rfl ?_
  intro w6 x6
  have hs6 := x6.size
  refine RH.take 0 (by kernel_rfl) rfl rfl rfl rfl (fun w' hDr => V.fa Tryz.underlying68 rfl Tryz.sizeOf9 rfl rfl) ?_
  refine RH.take 1 (by kernel_rfl) rfl rfl rfl rfl (fun w' hDr => V.ldB Tryz.isAgg9 rfl ((m5.ext x6).ext hDr) rfl) ?_
  refine RH.cl ck31 2 (by kernel_rfl) rfl rfl rfl rfl (isName_spec _ _) ?_
  rintro _ w7 ⟨rfl, x7⟩
  have hs7 := x7.size
  refine ⟨_, rfl, x7, ?_⟩
  refine RH.take 3 (by kernel_rfl) rfl rfl rfl rfl (fun w' hDr => V.notB rfl) ?_
  refine RH.take 4 (by kernel_rfl) rfl rfl rfl rfl (fun w' hDr => V.mv rfl) ?_
  refine RH.part (t := 34) rfl (fun hp34 => ?_) (fun hp34 => ?_)
  refine RH.no 5 (by kernel_rfl) rfl rfl rfl rfl ?_
  refine RH.no 6 (by kernel_rfl) rfl rfl rfl rfl ?_
  refine RH.no 7 (by kernel_rfl) rfl rfl rfl rfl ?_
  refine RH.no 8 (by kernel_rfl) rfl rfl rfl rfl ?_
  refine RH.no 9 (by kernel_rfl) rfl rfl rfl rfl ?_
  refine RH.no 10 (by kernel_rfl) rfl rfl rfl rfl ?_
  refine RH.no 11 (by kernel_rfl) rfl rfl rfl rfl ?_
  refine RH.no 12 (by kernel_rfl) rfl rfl rfl rfl ?_
  refine RH.take 13 (by kernel_rfl) rfl rfl rfl rfl (fun w' hDr => V.pkT rfl rfl) ?_
  refine RH.take 14 (by kernel_rfl) rfl rfl rfl rfl (fun w' hDr => V.mv rfl) ?_
  refine RH.no 15 (by kernel_rfl) rfl rfl rfl rfl ?_
  refine RH.no 16 (by kernel_rfl) rfl rfl rfl rfl ?_
  refine RH.no 17 (by kernel_rfl) rfl rfl rfl rfl ?_
  refine RH.no 18 (by kernel_rfl) rfl rfl rfl rfl ?_
  refine RH.no 19 (by kernel_rfl) rfl rfl rfl rfl ?_
  refine RH.no 20 (by kernel_rfl) rfl rfl rfl rfl ?_
  refine RH.no 21 (by kernel_rfl) rfl rfl rfl rfl ?_
  refine RH.take 22 (by kernel_rfl) rfl rfl rfl rfl (fun w' hDr => V.pkT rfl rfl) ?_
  refine RH.done (by kernel_rfl) (fun xd7 => ?_)
  refine Rn.condT rfl (Rn.seq (Rn.reg (Rn.v rfl rfl rfl rfl (V.as rfl) (Rn.regEnd ?_))))
  refine Rn.ret1 Tryz.func11 rfl rfl ?_
  exact ⟨.inl ⟨rfl, by rw [hnd, ← hadd, addAll_none (.inl (by simpa using hp34))]; rfl⟩, (x3.trans (x5.trans (x6.trans x7)))⟩
  refine RH.take 5 (by kernel_rfl) rfl rfl rfl rfl (fun w' hDr => V.mv rfl) ?_
  refine RH.take 6 (by kernel_rfl) rfl rfl rfl rfl (fun w' hDr => V.nil rfl) ?_
  refine RH.take 7 (by kernel_rfl) rfl rfl rfl rfl (fun w' hDr => V.fa Tryz.underlying73 rfl Tryz.sizeOf69 rfl rfl) ?_
  refine RH.take 8 (by kernel_rfl) rfl rfl rfl rfl (fun w' hDr => V.ldB Tryz.isAgg69 rfl (((hB.ext x5).ext x6).ext hDr) rfl) ?_
  refine RH.take 9 (by kernel_rfl) rfl rfl rfl rfl (fun w' hDr => V.fa Tryz.underlying68 rfl Tryz.sizeOf9 rfl rfl) ?_
  refine RH.take 10 (by kernel_rfl) rfl rfl rfl rfl (fun w' hDr => V.ldB Tryz.isAgg9 rfl ((m5.ext x6).ext hDr) rfl) ?_
  refine RH.take 11 (by kernel_rfl) rfl rfl rfl rfl (fun w' hDr => V.to (V.lkp Tryz.underlying69 Tryz.underlying9 Tryz.zeroValue75 rfl rfl (((hM.ext x5).ext x6).ext hDr)) hp1) ?_
  refine RH.take 12 (by kernel_rfl) rfl rfl rfl rfl (fun w' hDr => V.neqP Tryz.underlying75 rfl rfl) ?_
  refine RH.take 13 (by kernel_rfl) rfl rfl rfl rfl (fun w' hDr => V.pkF rfl rfl) ?_
  refine RH.take 14 (by kernel_rfl) rfl rfl rfl rfl (fun w' hDr => V.mv rfl) ?_
  refine RH.part (t := 44) rfl (fun hp44 => ?_) (fun hp44 => ?_)
  refine RH.no 15 (by kernel_rfl) rfl rfl rfl rfl ?_
  refine RH.no 16 (by kernel_rfl) rfl rfl rfl rfl ?_
  refine RH.no 17 (by kernel_rfl) rfl rfl rfl rfl ?_
  refine RH.no 18 (by kernel_rfl) rfl rfl rfl rfl ?_
  refine RH.no 19 (by kernel_rfl) rfl rfl rfl rfl ?_
  refine RH.no 20 (by kernel_rfl) rfl rfl rfl rfl ?_
  refine RH.no 21 (by kernel_rfl) rfl rfl rfl rfl ?_
  refine RH.take 22 (by kernel_rfl) rfl rfl rfl rfl (fun w' hDr => V.pkT rfl rfl) ?_
  refine RH.done (by kernel_rfl) (fun xd7 => ?_)
  refine Rn.condT rfl (Rn.seq (Rn.reg (Rn.v rfl rfl rfl rfl (V.as rfl) (Rn.regEnd ?_))))
  refine Rn.ret1 Tryz.func11 rfl rfl ?_
  exact ⟨.inl ⟨rfl, by rw [hnd, ← hadd, addAll_none (.inr (.inl (by obtain ⟨_, ff, _, _, hff⟩ := hp3 (by cases pv with | none => simp at hp44 | some a => rfl); have hff' : findF z.1 l = some ff := hff; rw [hff']; rfl)))]; rfl⟩, (x3.trans (x5.trans (x6.trans x7)))⟩
  refine RH.take 15 (by kernel_rfl) rfl rfl rfl rfl (fun w' hDr => V.fa Tryz.underlying68 rfl Tryz.sizeOf51 rfl rfl) ?_
  refine RH.take 16 (by kernel_rfl) rfl rfl rfl rfl (fun w' hDr => V.ldB Tryz.isAgg51 rfl ((m5.ext x6).ext hDr) rfl) ?_
  refine RH.take 17 (by kernel_rfl) rfl rfl rfl rfl (fun w' hDr => V.lenV Tryz.underlying51 rfl) ?_
  refine RH.take 18 (by kernel_rfl) rfl rfl rfl rfl (fun w' hDr => V.mv rfl) ?_
  refine RH.take 19 (by kernel_rfl) rfl rfl rfl rfl (fun w' hDr => V.mv rfl) ?_
  refine RH.take 20 (by kernel_rfl) rfl rfl rfl rfl (fun w' hDr => V.subI rfl rfl (w64 (by omega) (by omega))) ?_
  refine RH.take 21 (by kernel_rfl) rfl rfl rfl rfl (fun w' hDr => V.gtr rfl rfl) ?_
  refine RH.take 22 (by kernel_rfl) rfl rfl rfl rfl (fun w' hDr => V.pkF rfl rfl) ?_
  refine RH.done (by kernel_rfl) (fun xd7 => ?_)
  refine Rn.condD rfl (fun q3 => ?_) (fun q3 => ?_)
  refine Rn.seq (Rn.reg (Rn.v rfl rfl rfl rfl (V.as rfl) (Rn.regEnd ?_)))
  refine Rn.ret1 Tryz.func11 rfl rfl ?_
  exact ⟨.inl ⟨rfl, by rw [hnd, ← hadd, addAll_none (.inr (.inr (by omega)))]; rfl⟩, (x3.trans (x5.trans (x6.trans x7)))⟩
  have hfn := (hp2 (by cases pv with | none => rfl | some a => simp at hp44)).2
  have hlk := (hp2 (by cases pv with | none => rfl | some a => simp at hp44)).1
  have hfn' : findF z.1 l = none := hfn
  have hnm : isNm z.1 = true := by simpa using hp34
  rw [addAll_step (by rw [hfn', hnm]; simp; omega)] at hadd
  refine Rn.skip (Rn.seq (Rn.reg (Rn.v rfl rfl rfl rfl (V.mv rfl) (Rn.v rfl rfl rfl rfl (V.fa Tryz.underlying68 rfl Tryz.sizeOf51 rfl rfl) (Rn.v rfl rfl rfl rfl (V.ldB Tryz.isAgg51 rfl ((m5.ext x6).ext x7) rfl) (Rn.v rfl rfl rfl rfl (V.lenV Tryz.underlying51 rfl) (Rn.v rfl rfl rfl rfl (V.addI rfl rfl (w64 (by omega) (by omega))) (Rn.v rfl rfl rfl rfl (V.as rfl) (Rn.regEnd ?_)))))))))
  have d9 := (((d3.ext x5).ext x6).ext x7)
  have hbm := d9.ne.1
  have hlt9 := d9.lt
  have hsub9 := d9.sub
  have hF9 := hsub9 mb3 (by simp)
  have hmw9 := hF3 _ hF9
  have hlm9 := hlt9 _ hF9
  have hlb9 := hlt9 _ (hsub9 b2 (by simp))
  have hlm3 := d3.lt _ (d3.sub mb3 (by simp))
  refine Rn.drawS (fun w1 w' => Fr (fun x => x = mb3) w1 w') rfl (fun _ => Fr.refl _ _) ?_
  intro w8 x8
  have hs8 := x8.size
  refine RH.take 0 (by kernel_rfl) rfl rfl rfl rfl (fun w' hDr => V.mv rfl) ?_
  refine RH.take 1 (by kernel_rfl) rfl rfl rfl rfl (fun w' hDr => V.nil rfl) ?_
  refine RH.take 2 (by kernel_rfl) rfl rfl rfl rfl (fun w' hDr => V.fa Tryz.underlying73 rfl Tryz.sizeOf69 rfl rfl) ?_
  refine RH.take 3 (by kernel_rfl) rfl rfl rfl rfl (fun w' hDr => V.ldB Tryz.isAgg69 rfl (((((hB.ext x5).ext x6).ext x7).ext x8).fr hDr (by first | exact hbm | omega)) rfl) ?_
  refine RH.take 4 (by kernel_rfl) rfl rfl rfl rfl (fun w' hDr => V.fa Tryz.underlying68 rfl Tryz.sizeOf9 rfl rfl) ?_
  refine RH.take 5 (by kernel_rfl) rfl rfl rfl rfl (fun w' hDr => V.ldB Tryz.isAgg9 rfl ((((m5.ext x6).ext x7).ext x8).fr hDr (by first | exact hbm | omega)) rfl) ?_
  refine RH.take 6 (by kernel_rfl) rfl rfl rfl rfl (fun w' hDr => V.fa Tryz.underlying68 rfl Tryz.sizeOf51 rfl rfl) ?_
  refine RH.take 7 (by kernel_rfl) rfl rfl rfl rfl (fun w' hDr => V.ldB Tryz.isAgg51 rfl ((((m5.ext x6).ext x7).ext x8).fr hDr (by first | exact hbm | omega)) rfl) ?_
  refine RH.take 9 (by kernel_rfl) rfl rfl rfl rfl (fun w' hDr => V.fa Tryz.underlying68 rfl Tryz.sizeOf51 rfl rfl) ?_
  refine RH.take 10 (by kernel_rfl) rfl rfl rfl rfl (fun w' hDr => V.ldB Tryz.isAgg51 rfl ((((m5.ext x6).ext x7).ext x8).fr hDr (by first | exact hbm | omega)) rfl) ?_
  refine RH.take 11 (by kernel_rfl) rfl rfl rfl rfl (fun w' hDr => V.lenV Tryz.underlying51 rfl) ?_
  refine RH.cl ck32 8 (by kernel_rfl) rfl rfl rfl rfl (clone_spec _ _ _ _ (by omega) ((((sd.ext x5).ext x6).ext x7).ext x8)) ?_
  rintro _ w9 ⟨A9, c9, rfl, o9, x9⟩
  have hs9 := x9.size
  refine ⟨_, rfl, ((Fr.refl (fun x => x = mb3) _).trans (Ext.fr x9)), ?_⟩
  refine RH.take 12 (by kernel_rfl) rfl rfl rfl rfl (fun w' hDr => V.bldS st78 rfl rfl) ?_
  refine RH.box 13 (by kernel_rfl) rfl rfl rfl rfl rfl ?_
  intro b10 w10 hb10 m10 x10
  have hz10 : w.heap.size ≤ b10 := by have := ((x3.trans (x5.trans (x6.trans (x7.trans (x8.trans x9)))))).size; omega
  have hl10 : b10 < w10.heap.size := m10.lt
  have hs10 := x10.size
  refine ⟨(((Fr.refl (fun x => x = mb3) _).trans (Ext.fr x9)).trans (Ext.fr x10)), ?_⟩
  refine RH.mu 14 (by kernel_rfl) rfl rfl Tryz.underlying69 Tryz.underlying9 rfl rfl rfl ((((((hM.ext x5).ext x6).ext x7).ext x8).ext x9).ext x10) ?_
  intro k11 w11 m11 x11 hk11
  have e11 : Ext w w11 := ((x3.trans (x5.trans (x6.trans (x7.trans (x8.trans (x9.trans x10))))))).trans' x11 (fun x hx => .inr (by subst hx; omega))
  have hs11 := x11.size
  refine ⟨((((Fr.refl (fun x => x = mb3) _).trans (Ext.fr x9)).trans (Ext.fr x10)).trans (x11.mono (fun y hy => by first | exact .inl hy | exact .inr hy | exact hy))), ?_⟩
  refine RH.done (by kernel_rfl) (fun xd11 => ?_)
  refine Rn.inBlock (Rn.reg (Rn.v rfl rfl rfl rfl (V.addI rfl rfl (w64 (by omega) (by omega))) (Rn.v rfl rfl rfl rfl (V.mv rfl) (Rn.regEnd ?_))))
  have hob := o9.base
  have hbl := m10.lt
  have hge : ∀ x ∈ b10 :: obL A9, w7.heap.size ≤ x ∧ x < w11.heap.size := fun x hx => by
    rcases List.mem_cons.1 hx with rfl | hx
    · exact ⟨by omega, by omega⟩
    · have := hob x (mem_obL.1 hx); exact ⟨by omega, by omega⟩
  obtain ⟨bss', hd⟩ := d9.put (name := z.1) (f := ⟨z.2, z.2.length⟩) (bs := b10 :: obL A9) (((((Fr.refl (fun x => x = mb3) _).trans (Ext.fr x8)).trans (Ext.fr x9)).trans (Ext.fr x10)).trans (x11.mono (fun y hy => by first | exact .inl hy | exact .inr hy | exact hy))) (fun x _ hx => hx) m11 hk11 ⟨b10, A9, c9, rfl, m10.fr x11 (fun hh => by omega), ((o9.ext x10).fr x11 (fun _ hh => hh.elim) (fun x hx hh => by have := hob x hx; omega)).lower (Nat.zero_le _), rfl⟩ (nodup_cons_obL fun hh => by have := hob _ hh; omega) (fun x hx => ⟨fun hh => by have := (hge x hx).1; omega, fun hh => by have := (hge x hx).1; omega, fun hh => by have := (hge x hx).1; have := hlt9 _ (hsub9 _ (List.mem_cons_of_mem _ (List.mem_cons_of_mem _ hh))); omega, (hge x hx).2⟩) rfl
  exact hn3 (i + 1, putF z.1 ⟨z.2, z.2.length⟩ l, u + z.2.length) _ _ (Sub.cons rfl (Sub.cons (lki _ rfl (by first | omega | rfl | (dsimp only; omega))) (Sub.cons rfl (Sub.cons (lki _ rfl (by first | omega | rfl | (dsimp only; omega))) (Sub.cons (lki _ rfl (by first | omega | rfl | (dsimp only; omega))) (Sub.cons rfl (Sub.cons (lki _ rfl (by first | omega | rfl | (dsimp only; omega))) (Sub.nil _)))))))) (⟨by dsimp only; omega, by dsimp only; omega, hadd, ⟨_, ⟨_, _, _, _, hd⟩, fun x hx => by rcases hx with hh | hh; exact hF3 x hh; have := (hge x hh).1; omega⟩, e11⟩) (by dsimp only; omega)
  refine Rn.exit rfl (Rn.seq (Rn.reg (Rn.v rfl rfl rfl rfl (V.mv rfl) (Rn.v rfl rfl rfl rfl (V.as rfl) (Rn.regEnd ?_)))))
  refine Rn.ret1 Tryz.func11 rfl rfl ?_
  rw [List.drop_of_length_le (by omega)] at hadd
  exact ⟨.inr ⟨_, _, _, by rw [hnd, ← hadd]; rfl, rfl, ⟨_, _, _, _, d3⟩, hF3⟩, x3⟩

theorem ck37 : CallOk Tryz.prog 37 := ⟨_, _, Tryz.func37, rfl, by kernel_rfl⟩
theorem st71 : StOk Tryz.prog 71 [.int .i64 0, .int .i64 0] [(0, 1), (1, 1)] := ⟨Tryz.zeroValue71, _, Tryz.underlying71, fun w => by kernel_rfl⟩
set_option maxRecDepth 20000 in
theorem calls_spec {b : Nat} {F : Nat → Prop} {s : PD} (w : World) (h : DkAt 73 78 5 w b F s) :
Calls Tryz.prog 50 #[.pointer (some ⟨b, 0, none⟩)] w fun x w' => x = .returned (.int .i64 s.calls) ∧ w = w' := by
  obtain ⟨mb, ms, ck, bss, h⟩ := h
  have hB := h.blk
  refine Rn.enter Tryz.func50 rfl rfl (Nat.le_of_ble_eq_true rfl) ?_
  refine Rn.seq (Rn.reg (Rn.v rfl rfl rfl rfl (V.as rfl) (Rn.regEnd (Rn.seq (Rn.reg (Rn.v rfl rfl rfl rfl (V.mv rfl) (Rn.v rfl rfl rfl rfl (V.nil rfl) (Rn.v rfl rfl rfl rfl (V.fa Tryz.underlying73 rfl Tryz.sizeOf3 rfl rfl) (Rn.v rfl rfl rfl rfl (V.ldB Tryz.isAgg3 rfl hB rfl) (Rn.v rfl rfl rfl rfl (V.as rfl) (Rn.regEnd ?_)))))))))))
  refine Rn.ret1 Tryz.func50 rfl rfl ?_
  exact ⟨rfl, rfl⟩

set_option maxRecDepth 20000 in
theorem arm_spec (calls after e : Int) (w : World) (h0 : 0 ≤ calls) (h1 : calls < 4611686018427387904) :
Calls Tryz.prog 37 #[.int .i64 calls, .int .i64 after, .int .i64 e] w fun x w' => x = .returned (.agg [.int .i64 (armP calls after e).1, .int .i64 (armP calls after e).2].toArray) ∧ Ext w w' := by
  refine Rn.enter Tryz.func37 rfl rfl (Nat.le_of_ble_eq_true rfl) ?_
  refine Rn.seq (Rn.reg (Rn.alloc rfl rfl rfl Tryz.zeroValue71 rfl ?_))
  intro b1 w1 hb1 m1 x1
  refine Rn.regEnd (Rn.seq (Rn.seq (Rn.reg (Rn.v rfl rfl rfl rfl (V.mv rfl) (Rn.v rfl rfl rfl rfl (V.lss rfl rfl) (Rn.v rfl rfl rfl rfl (V.mv rfl) ?_))))))
  refine Rn.partD (t := 9) rfl (fun q1 => ?_) (fun q1 => ?_)
  refine Rn.no rfl rfl rfl rfl (Rn.no rfl rfl rfl rfl (Rn.v rfl rfl rfl rfl (V.pkT rfl rfl) (Rn.v rfl rfl rfl rfl (V.mv rfl) (Rn.no rfl rfl rfl rfl (Rn.no rfl rfl rfl rfl (Rn.v rfl rfl rfl rfl (V.pkT rfl rfl) (Rn.regEnd (Rn.condT rfl (Rn.seq (Rn.reg (Rn.v rfl rfl rfl rfl (V.bldS st71 rfl rfl) (Rn.st rfl rfl Tryz.sizeOf71 rfl rfl rfl rfl (by first | exact ones rfl | (simp [Value.oneCell']; done)) m1 (by first | exact Nat.le_of_ble_eq_true rfl | (simp; done)) ?_))))))))))))
  intro w2 m2 x2
  have e2 : Ext w w2 := (x1).trans' x2 (fun x hx => .inr (by subst hx; omega))
  refine Rn.regEnd ?_
  refine Rn.retC Tryz.func37 rfl rfl Tryz.isAgg71 Tryz.sizeOf71 m2 rfl ?_
  exact ⟨by rw [armP, if_pos (.inl q1)]; first | done | rfl, e2⟩
  refine Rn.v rfl rfl rfl rfl (V.mv rfl) (Rn.v rfl rfl rfl rfl (V.eql rfl rfl) (Rn.v rfl rfl rfl rfl (V.pkF rfl rfl) (Rn.v rfl rfl rfl rfl (V.mv rfl) ?_)))
  refine Rn.partD (t := 13) rfl (fun q2 => ?_) (fun q2 => ?_)
  refine Rn.no rfl rfl rfl rfl (Rn.no rfl rfl rfl rfl (Rn.v rfl rfl rfl rfl (V.pkT rfl rfl) (Rn.regEnd (Rn.condT rfl (Rn.seq (Rn.reg (Rn.v rfl rfl rfl rfl (V.bldS st71 rfl rfl) (Rn.st rfl rfl Tryz.sizeOf71 rfl rfl rfl rfl (by first | exact ones rfl | (simp [Value.oneCell']; done)) m1 (by first | exact Nat.le_of_ble_eq_true rfl | (simp; done)) ?_))))))))
  intro w3 m3 x3
  have e3 : Ext w w3 := (x1).trans' x3 (fun x hx => .inr (by subst hx; omega))
  refine Rn.regEnd ?_
  refine Rn.retC Tryz.func37 rfl rfl Tryz.isAgg71 Tryz.sizeOf71 m3 rfl ?_
  exact ⟨by rw [armP, if_pos (.inr (.inl q2))]; first | done | rfl, e3⟩
  refine Rn.v rfl rfl rfl rfl (V.mv rfl) (Rn.v rfl rfl rfl rfl (V.geq rfl rfl) (Rn.v rfl rfl rfl rfl (V.pkF rfl rfl) (Rn.regEnd ?_)))
  refine Rn.condD rfl (fun q3 => ?_) (fun q3 => ?_)
  refine Rn.seq (Rn.reg (Rn.v rfl rfl rfl rfl (V.bldS st71 rfl rfl) (Rn.st rfl rfl Tryz.sizeOf71 rfl rfl rfl rfl (by first | exact ones rfl | (simp [Value.oneCell']; done)) m1 (by first | exact Nat.le_of_ble_eq_true rfl | (simp; done)) ?_)))
  intro w4 m4 x4
  have e4 : Ext w w4 := (x1).trans' x4 (fun x hx => .inr (by subst hx; omega))
  refine Rn.regEnd ?_
  refine Rn.retC Tryz.func37 rfl rfl Tryz.isAgg71 Tryz.sizeOf71 m4 rfl ?_
  exact ⟨by rw [armP, if_pos (.inr (.inr (by omega)))]; first | done | rfl, e4⟩
  refine Rn.skip (Rn.seq (Rn.reg (Rn.v rfl rfl rfl rfl (V.mv rfl) (Rn.v rfl rfl rfl rfl (V.addI rfl rfl (w64 (by omega) (by omega))) (Rn.v rfl rfl rfl rfl (V.mv rfl) (Rn.v rfl rfl rfl rfl (V.addI rfl rfl (w64 (by omega) (by omega))) (Rn.v rfl rfl rfl rfl (V.mv rfl) (Rn.v rfl rfl rfl rfl (V.bldS st71 rfl rfl) (Rn.st rfl rfl Tryz.sizeOf71 rfl rfl rfl rfl (by first | exact ones rfl | (simp [Value.oneCell']; done)) m1 (by first | exact Nat.le_of_ble_eq_true rfl | (simp; done)) ?_)))))))))
  intro w5 m5 x5
  have e5 : Ext w w5 := (x1).trans' x5 (fun x hx => .inr (by subst hx; omega))
  refine Rn.regEnd ?_
  refine Rn.retC Tryz.func37 rfl rfl Tryz.isAgg71 Tryz.sizeOf71 m5 rfl ?_
  exact ⟨by rw [armP, if_neg (by omega)]; first | done | rfl, e5⟩

set_option maxRecDepth 20000 in
theorem fail_spec {b : Nat} {F : Nat → Prop} {s : PD} (after e : Int) (w : World) (hc : s.calls < 4611686018427387904) (h : DkAt 73 78 5 w b F s) :
Calls Tryz.prog 13 #[.pointer (some ⟨b, 0, none⟩), .int .i64 after, .int .i64 e] w fun x w' => x = .returned (.tuple #[]) ∧ ∃ F', DkAt 73 78 5 w' b F' (s.fail after e) ∧ Fr F w w' ∧ (∀ x, F' x → F x ∨ w.heap.size ≤ x) := by
  obtain ⟨mb, ms, ck, bss, h⟩ := h
  have hFb := h.sub b (by simp)
  have hFm := h.sub mb (by simp)
  have hB := h.blk
  refine Rn.enter Tryz.func13 rfl rfl (Nat.le_of_ble_eq_true rfl) ?_
  refine Rn.reg (Rn.v rfl rfl rfl rfl (V.mv rfl) (Rn.v rfl rfl rfl rfl (V.mv rfl) (Rn.v rfl rfl rfl rfl (V.nil rfl) (Rn.v rfl rfl rfl rfl (V.fa Tryz.underlying73 rfl Tryz.sizeOf3 rfl rfl) (Rn.v rfl rfl rfl rfl (V.ldB Tryz.isAgg3 rfl hB rfl) (Rn.v rfl rfl rfl rfl (V.mv rfl) (Rn.v rfl rfl rfl rfl (V.mv rfl) (Rn.cl ck37 rfl rfl rfl rfl (arm_spec _ _ _ _ (by omega) (by omega)) ?_))))))))
  rintro _ w1 ⟨rfl, x1⟩
  refine ⟨_, rfl, ?_⟩
  refine Rn.v rfl rfl rfl rfl (V.nil rfl) (Rn.v rfl rfl rfl rfl (V.fa Tryz.underlying73 rfl Tryz.sizeOf71 rfl rfl) (Rn.st rfl rfl Tryz.sizeOf71 rfl rfl rfl rfl (by first | exact ones rfl | (simp [Value.oneCell']; done)) (hB.ext x1) (by first | exact Nat.le_of_ble_eq_true rfl | (simp; done)) ?_))
  intro w2 m2 x2
  have e2 : Fr F w w2 := (((Fr.refl F _).trans (Ext.fr x1))).trans' x2 (fun x hx => by first | (subst hx; exact .inl hFb) | (subst hx; exact .inl hFm))
  refine Rn.regEnd ?_
  refine Rn.end0 Tryz.func13 rfl ?_
  exact ⟨rfl, F, ⟨mb, ms, ck, bss, (h.ext x1).own x2 rfl m2⟩, e2, fun x hx => .inl hx⟩

set_option maxRecDepth 20000 in
theorem crash_spec {b : Nat} {F : Nat → Prop} {s : PD} (after : Int) (w : World) (hc : s.calls < 4611686018427387904) (h : DkAt 73 78 5 w b F s) :
Calls Tryz.prog 14 #[.pointer (some ⟨b, 0, none⟩), .int .i64 after] w fun x w' => x = .returned (.tuple #[]) ∧ ∃ F', DkAt 73 78 5 w' b F' (s.crash after) ∧ Fr F w w' ∧ (∀ x, F' x → F x ∨ w.heap.size ≤ x) := by
  obtain ⟨mb, ms, ck, bss, h⟩ := h
  have hFb := h.sub b (by simp)
  have hFm := h.sub mb (by simp)
  have hB := h.blk
  refine Rn.enter Tryz.func14 rfl rfl (Nat.le_of_ble_eq_true rfl) ?_
  refine Rn.reg (Rn.v rfl rfl rfl rfl (V.mv rfl) (Rn.v rfl rfl rfl rfl (V.mv rfl) (Rn.v rfl rfl rfl rfl (V.nil rfl) (Rn.v rfl rfl rfl rfl (V.fa Tryz.underlying73 rfl Tryz.sizeOf3 rfl rfl) (Rn.v rfl rfl rfl rfl (V.ldB Tryz.isAgg3 rfl hB rfl) (Rn.v rfl rfl rfl rfl (V.mv rfl) (Rn.cl ck37 rfl rfl rfl rfl (arm_spec _ _ _ _ (by omega) (by omega)) ?_)))))))
  rintro _ w1 ⟨rfl, x1⟩
  refine ⟨_, rfl, ?_⟩
  refine Rn.v rfl rfl rfl rfl (V.nil rfl) (Rn.v rfl rfl rfl rfl (V.fa Tryz.underlying73 rfl Tryz.sizeOf71 rfl rfl) (Rn.st rfl rfl Tryz.sizeOf71 rfl rfl rfl rfl (by first | exact ones rfl | (simp [Value.oneCell']; done)) (hB.ext x1) (by first | exact Nat.le_of_ble_eq_true rfl | (simp; done)) ?_))
  intro w2 m2 x2
  have e2 : Fr F w w2 := (((Fr.refl F _).trans (Ext.fr x1))).trans' x2 (fun x hx => by first | (subst hx; exact .inl hFb) | (subst hx; exact .inl hFm))
  refine Rn.regEnd ?_
  refine Rn.end0 Tryz.func14 rfl ?_
  exact ⟨rfl, F, ⟨mb, ms, ck, bss, (h.ext x1).own x2 rfl m2⟩, e2, fun x hx => .inl hx⟩



theorem ck71 : CallOk Tryz.prog 71 := ⟨_, _, Tryz.func71, rfl, by kernel_rfl⟩
theorem ck72 : CallOk Tryz.prog 72 := ⟨_, _, Tryz.func72, rfl, by kernel_rfl⟩
set_option maxRecDepth 20000 in
theorem names_spec {b : Nat} {F : Nat → Prop} {s : PD} (w : World) (hl : (∀ k ∈ s.files.map (·.1), k.length ≤ 1000000) ∧ s.files.length ≤ 1000000) (h : DkAt 73 78 5 w b F s) :
Calls Tryz.prog 39 #[.pointer (some ⟨b, 0, none⟩)] w fun x w' => ∃ A c, x = .returned (.slice A s.names.length c) ∧ Own w.heap.size No w' 9 A c textR s.names ∧ Ext w w' := by
  obtain ⟨mb, ms, ck, bss, h⟩ := h
  have hB := h.blk
  have hM := h.map
  refine Rn.enter Tryz.func39 rfl rfl (Nat.le_of_ble_eq_true rfl) ?_
  refine Rn.seq (Rn.reg (Rn.v rfl rfl rfl rfl (V.as rfl) (Rn.regEnd (Rn.seq (Rn.seq (Rn.reg (Rn.v rfl rfl rfl rfl (V.mv rfl) (Rn.v rfl rfl rfl rfl (V.nil rfl) (Rn.v rfl rfl rfl rfl (V.fa Tryz.underlying73 rfl Tryz.sizeOf4 rfl rfl) (Rn.v rfl rfl rfl rfl (V.ldB Tryz.isAgg4 rfl hB rfl) (Rn.regEnd ?_)))))))))))
  refine Rn.condS rfl (fun q1 => ?_) (fun q1 => ?_)
  refine Rn.seq (Rn.reg (Rn.v rfl rfl rfl rfl (V.as rfl) (Rn.regEnd ?_)))
  refine Rn.ret1 Tryz.func39 rfl rfl ?_
  exact ⟨none, 0, by rw [PD.names, if_pos q1]; rfl, by rw [PD.names, if_pos q1]; exact Own.nil _ _ _ _ _, Ext.refl _⟩
  have hnm : s.names = (s.files.map (·.1)).mergeSort leK := by rw [PD.names, if_neg (by simp [q1])]; rfl
  refine Rn.skip (Rn.seq (Rn.reg (Rn.v rfl rfl rfl rfl (V.mv rfl) (Rn.v rfl rfl rfl rfl (V.nil rfl) (Rn.v rfl rfl rfl rfl (V.fa Tryz.underlying73 rfl Tryz.sizeOf69 rfl rfl) (Rn.v rfl rfl rfl rfl (V.ldB Tryz.isAgg69 rfl hB rfl) (Rn.cl ck72 rfl rfl rfl rfl (callsIn_wide.1 (Tryz.maps_Keys_72 (some mb) _)) ?_)))))))
  rintro _ w1 ⟨rfl, hk1⟩
  have x1 : Ext w w1 := hk1 ▸ Ext.alloc _ _
  refine ⟨_, rfl, ?_⟩
  refine Rn.cl ck71 rfl rfl rfl rfl (sorted_keysO Tryz.underlying9 (fun b nn D0 R w => Tryz.slices_Sorted_keys_71_72 b nn D0 R w) hk1 h.map h.born h.bnd h.keys h.files.names hl.1 (by simpa using hl.2)) ?_
  rintro _ w2 ⟨A2, c2, rfl, o2, x2⟩
  refine ⟨_, rfl, ?_⟩
  refine Rn.v rfl rfl rfl rfl (V.as rfl) (Rn.regEnd ?_)
  refine Rn.ret1 Tryz.func39 rfl rfl ?_
  rw [hnm]; exact ⟨A2, c2, rfl, o2.lower x1.size, (x1.trans x2)⟩

theorem ck39 : CallOk Tryz.prog 39 := ⟨_, _, Tryz.func39, rfl, by kernel_rfl⟩
set_option maxRecDepth 20000 in
theorem boot_spec {b : Nat} {F : Nat → Prop} {s : PD} {D : Nat → Prop} (keep : List Int) (A : Option Addr) (c m : Nat) (w : World) (hl : (∀ k ∈ s.files.map (·.1), k.length ≤ 1000000) ∧ s.files.length ≤ 1000000) (hsr : ∀ p ∈ s.files, p.2.sure ≤ p.2.data.length) (hkl : keep.length ≤ 9223372036854775807) (hm : keep.length = m) (hS : Sl D w A (intR .i64) keep) (hD : ∀ x, D x → ¬ F x) (h : DkAt 73 78 5 w b F s) :
Calls Tryz.prog 28 #[.pointer (some ⟨b, 0, none⟩), .slice A m c] w fun x w' => x = .returned (.int .i64 (s.boot keep).2) ∧ ∃ F', DkAt 73 78 5 w' b F' (s.boot keep).1 ∧ Fr F w w' ∧ (∀ x, F' x → F x ∨ w.heap.size ≤ x) := by
  subst hm
  obtain ⟨mb, ms, ck, bss, h⟩ := h
  have hFb := h.sub b (by simp)
  have hFm := h.sub mb (by simp)
  have hB := h.blk
  have hlb := h.lt b hFb
  have hlm := h.lt mb hFm
  have hltF := h.lt
  refine Rn.enter Tryz.func28 rfl rfl (Nat.le_of_ble_eq_true rfl) ?_
  refine Rn.seq (Rn.reg (Rn.v rfl rfl rfl rfl (V.as rfl) (Rn.regEnd (Rn.seq (Rn.seq (Rn.reg (Rn.v rfl rfl rfl rfl (V.mv rfl) (Rn.v rfl rfl rfl rfl (V.nil rfl) (Rn.v rfl rfl rfl rfl (V.fa Tryz.underlying73 rfl Tryz.sizeOf4 rfl rfl) (Rn.v rfl rfl rfl rfl (V.ldB Tryz.isAgg4 rfl hB rfl) (Rn.v rfl rfl rfl rfl (V.notB rfl) (Rn.regEnd ?_))))))))))))
  refine Rn.condS rfl (fun q1 => ?_) (fun q1 => ?_)
  refine Rn.seq (Rn.reg (Rn.v rfl rfl rfl rfl (V.as rfl) (Rn.regEnd ?_)))
  refine Rn.ret1 Tryz.func28 rfl rfl ?_
  have hr : s.boot keep = (s, 16) := if_neg (by simpa using q1)
  exact ⟨by rw [hr]; first | done | rfl, F, by rw [hr]; exact ⟨mb, ms, ck, bss, h⟩, (Fr.refl _ _), fun x hx => .inl hx⟩
  refine Rn.skip (Rn.seq (Rn.reg (Rn.v rfl rfl rfl rfl (V.mv rfl) (Rn.v rfl rfl rfl rfl (V.mv rfl) (Rn.v rfl rfl rfl rfl (V.mv rfl) (Rn.v rfl rfl rfl rfl (V.bldS st71 rfl rfl) (Rn.v rfl rfl rfl rfl (V.bldS st71 rfl rfl) (Rn.v rfl rfl rfl rfl (V.nil rfl) (Rn.v rfl rfl rfl rfl (V.fa Tryz.underlying73 rfl Tryz.sizeOf4 rfl rfl) (Rn.st rfl rfl Tryz.sizeOf4 rfl rfl rfl rfl (by first | exact ones rfl | (simp [Value.oneCell']; done)) hB (by first | exact Nat.le_of_ble_eq_true rfl | (simp; done)) ?_))))))))))
  intro w1 m1 x1
  have e1 : Fr F w w1 := ((Fr.refl _ _)).trans' x1 (fun x hx => by first | (subst hx; exact .inl hFb) | (subst hx; exact .inl hFm))
  refine Rn.v rfl rfl rfl rfl (V.nil rfl) (Rn.v rfl rfl rfl rfl (V.fa Tryz.underlying73 rfl Tryz.sizeOf71 rfl rfl) (Rn.st rfl rfl Tryz.sizeOf71 rfl rfl rfl rfl (by first | exact ones rfl | (simp [Value.oneCell']; done)) m1 (by first | exact Nat.le_of_ble_eq_true rfl | (simp; done)) ?_))
  intro w2 m2 x2
  have e2 : Fr F w w2 := (e1).trans' x2 (fun x hx => by first | (subst hx; exact .inl hFb) | (subst hx; exact .inl hFm))
  refine Rn.v rfl rfl rfl rfl (V.nil rfl) (Rn.v rfl rfl rfl rfl (V.fa Tryz.underlying73 rfl Tryz.sizeOf71 rfl rfl) (Rn.st rfl rfl Tryz.sizeOf71 rfl rfl rfl rfl (by first | exact ones rfl | (simp [Value.oneCell']; done)) m2 (by first | exact Nat.le_of_ble_eq_true rfl | (simp; done)) ?_))
  intro w3 m3 x3
  have e3 : Fr F w w3 := (e2).trans' x3 (fun x hx => by first | (subst hx; exact .inl hFb) | (subst hx; exact .inl hFm))
  refine Rn.regEnd (Rn.seq (Rn.seq (Rn.reg (Rn.v rfl rfl rfl rfl (V.mv rfl) ?_))))
  have d3 : DkP 73 78 5 w3 b mb ms ck bss F s.up := h.own ((((Fr.refl (fun x => x = b) _).trans (x1.mono (fun y hy => by first | exact .inl hy | exact .inr hy | exact hy))).trans (x2.mono (fun y hy => by first | exact .inl hy | exact .inr hy | exact hy))).trans (x3.mono (fun y hy => by first | exact .inl hy | exact .inr hy | exact hy))) rfl m3
  refine Rn.cl ck39 rfl rfl rfl rfl (names_spec (s := s.up) _ hl ⟨mb, ms, ck, bss, d3⟩) ?_
  rintro _ w4 ⟨A4, c4, rfl, o4, x4⟩
  refine ⟨_, rfl, ?_⟩
  refine Rn.v rfl rfl rfl rfl (V.lenV Tryz.underlying87 rfl) (Rn.v rfl rfl rfl rfl (V.mv rfl) (Rn.regEnd (Rn.block ?_)))
  have hk0 : ∀ z ∈ s.up.names, z ∈ s.files.map (·.1) := fun z hz => List.mem_mergeSort.1 hz
  have hnl : s.up.names.length ≤ 1000000 := by show ((s.files.map (·.1)).mergeSort leN).length ≤ _; rw [List.length_mergeSort, List.length_map]; exact hl.2
  refine Rn.loopI (G := Nat) (fun g => [(26, .slice A4 s.up.names.length c4), (27, .int .i64 s.up.names.length), (28, .int .i64 g), (0, .pointer (some ⟨b, 0, none⟩)), (1, .slice A keep.length c)]) (fun g w' => g ≤ s.up.names.length ∧ (∃ F' bss', DkP 73 78 5 w' b mb ms ck bss' F' { s.up with files := bootF keep 0 (s.up.names.take g) s.files } ∧ (∀ x, F' x → F x)) ∧ Own w.heap.size No w' 9 A4 c4 textR s.up.names ∧ Fr F w w') (fun g => s.up.names.length - g) 0 ?_ ?_ ?_
  · exact Sub.cons rfl (Sub.cons (lki _ rfl (by first | omega | rfl | (dsimp only; omega))) (Sub.cons (lki _ rfl (by first | omega | rfl | (dsimp only; omega))) (Sub.cons rfl (Sub.cons rfl (Sub.nil _)))))
  · exact ⟨by omega, ⟨F, bss, d3.ext x4, fun x hx => hx⟩, o4.lower e3.size, (e3.trans (Ext.fr x4))⟩
  rintro i w5 ⟨hi, ⟨F5, bss5, d5, hF5⟩, o5, x5⟩ hn5
  have sn5 := o5.sl
  have hob5 := o5.base
  refine Rn.seq (Rn.reg (Rn.v rfl rfl rfl rfl (V.lss rfl rfl) (Rn.regEnd (Rn.seq ?_))))
  refine Rn.condD rfl (fun hlt => ?_) (fun hlt => ?_)
  obtain ⟨z, hz⟩ : ∃ z, s.up.names[i]? = some z := ⟨_, List.getElem?_eq_getElem (by omega)⟩
  have hB5 := d5.blk
  have hM5 := d5.map
  obtain ⟨pv, hp1, hp2, hp3⟩ := d5.ptr z
  refine Rn.skip (Rn.seq (Rn.block (Rn.seq (Rn.reg (Rn.v rfl rfl rfl rfl (V.mv rfl) (Rn.ix i z rfl rfl rfl Tryz.underlying87 Tryz.sizeOf9 rfl rfl sn5 rfl hz rfl (by omega) ?_))))))
  rintro b6 o6 vs6 r6 ⟨rfl, _⟩ hD6
  refine Rn.v rfl rfl rfl rfl (V.ldR0 Tryz.isAgg9 rfl r6 rfl) (Rn.v rfl rfl rfl rfl (V.as rfl) (Rn.v rfl rfl rfl rfl (V.as rfl) (Rn.regEnd (Rn.seq (Rn.reg (Rn.v rfl rfl rfl rfl (V.mv rfl) (Rn.v rfl rfl rfl rfl (V.nil rfl) (Rn.v rfl rfl rfl rfl (V.fa Tryz.underlying73 rfl Tryz.sizeOf69 rfl rfl) (Rn.v rfl rfl rfl rfl (V.ldB Tryz.isAgg69 rfl hB5 rfl) (Rn.v rfl rfl rfl rfl (V.mv rfl) (Rn.v rfl rfl rfl rfl (V.to (V.lkp Tryz.underlying69 Tryz.underlying9 Tryz.zeroValue75 rfl rfl hM5) hp1) (Rn.v rfl rfl rfl rfl (V.as rfl) (Rn.regEnd (Rn.seq (Rn.reg ?_)))))))))))))))
  have hzk := hk0 z (List.mem_of_getElem? hz)
  obtain ⟨fb, f, rfl, hq1, hq2⟩ := hp3 (by cases pv with | some a => rfl | none => exact absurd (hp2 rfl).2 (bootF_find hzk))
  dsimp only at hq2
  obtain ⟨f', A1, c1, hff, hfB, hO, hfb, hFf, hfm, hoA, ht⟩ := d5.turn hq1
  dsimp only at hff
  rw [hq2] at hff
  cases hff
  obtain ⟨hsur, hsk⟩ := bootF_sure hsr hq2
  have hkle := hsk keep[i]?
  have hcl := hO.le
  have hml : maxLen = 9223372036854775807 := rfl
  have hFF := hF5 fb hFf
  refine Rn.v rfl rfl rfl rfl (V.mv rfl) (Rn.v rfl rfl rfl rfl (V.nil rfl) (Rn.v rfl rfl rfl rfl (V.fa Tryz.underlying78 rfl Tryz.sizeOf3 rfl rfl) (Rn.v rfl rfl rfl rfl (V.ldB Tryz.isAgg3 rfl hfB rfl) (Rn.v rfl rfl rfl rfl (V.as rfl) (Rn.regEnd (Rn.seq (Rn.seq (Rn.reg (Rn.v rfl rfl rfl rfl (V.mv rfl) (Rn.v rfl rfl rfl rfl (V.mv rfl) (Rn.v rfl rfl rfl rfl (V.lenV Tryz.underlying108 rfl) (Rn.v rfl rfl rfl rfl (V.lss rfl rfl) (Rn.regEnd ?_)))))))))))))
  refine Rn.condD rfl (fun hk => ?_) (fun hk => ?_)
  obtain ⟨kb, ko, rfl, hDk, hkr⟩ := hS (by intro hh; rw [hh] at hk; simp at hk; omega)
  obtain ⟨zk, hzk2⟩ : ∃ zk, keep[i]? = some zk := ⟨_, List.getElem?_eq_getElem (by omega)⟩
  obtain ⟨vsk, hrk, hrel⟩ := hkr i zk hzk2
  obtain ⟨rfl, _⟩ := hrel
  have hkn : ((keepN f keep[i]? : Nat) : Int) = f.sure + min (max zk 0) ((f.data.length : Int) - f.sure) := by rw [hzk2]; exact keepN_some hsur zk
  refine Rn.drawE rfl ?_
  intro w7 x7
  refine RH.take 0 (by kernel_rfl) rfl rfl rfl rfl (fun w' hDr => V.mv rfl) ?_
  refine RH.take 1 (by kernel_rfl) rfl rfl rfl rfl (fun w' hDr => V.mv rfl) ?_
  refine RH.take 2 (by kernel_rfl) rfl rfl rfl rfl (fun w' hDr => V.mv rfl) ?_
  refine RH.take 3 (by kernel_rfl) rfl rfl rfl rfl (fun w' hDr => V.ixA i Tryz.underlying108 Tryz.sizeOf3 rfl rfl rfl (by omega)) ?_
  refine RH.take 4 (by kernel_rfl) rfl rfl rfl rfl (fun w' hDr => V.ldR0 Tryz.isAgg3 rfl ((hrk.fr (x5.trans (Ext.fr x7)) (hD _ hDk)).ext hDr) rfl) ?_
  refine RH.take 5 (by kernel_rfl) rfl rfl rfl rfl (fun w' hDr => V.maxi rfl rfl) ?_
  refine RH.take 6 (by kernel_rfl) rfl rfl rfl rfl (fun w' hDr => V.mv rfl) ?_
  refine RH.take 7 (by kernel_rfl) rfl rfl rfl rfl (fun w' hDr => V.nil rfl) ?_
  refine RH.take 8 (by kernel_rfl) rfl rfl rfl rfl (fun w' hDr => V.fa Tryz.underlying78 rfl Tryz.sizeOf51 rfl rfl) ?_
  refine RH.take 9 (by kernel_rfl) rfl rfl rfl rfl (fun w' hDr => V.ldB Tryz.isAgg51 rfl ((hfB.ext x7).ext hDr) rfl) ?_
  refine RH.take 10 (by kernel_rfl) rfl rfl rfl rfl (fun w' hDr => V.lenV Tryz.underlying51 rfl) ?_
  refine RH.take 11 (by kernel_rfl) rfl rfl rfl rfl (fun w' hDr => V.mv rfl) ?_
  refine RH.take 12 (by kernel_rfl) rfl rfl rfl rfl (fun w' hDr => V.nil rfl) ?_
  refine RH.take 13 (by kernel_rfl) rfl rfl rfl rfl (fun w' hDr => V.fa Tryz.underlying78 rfl Tryz.sizeOf3 rfl rfl) ?_
  refine RH.take 14 (by kernel_rfl) rfl rfl rfl rfl (fun w' hDr => V.ldB Tryz.isAgg3 rfl ((hfB.ext x7).ext hDr) rfl) ?_
  refine RH.take 15 (by kernel_rfl) rfl rfl rfl rfl (fun w' hDr => V.subI rfl rfl (w64 (by omega) (by omega))) ?_
  refine RH.take 16 (by kernel_rfl) rfl rfl rfl rfl (fun w' hDr => V.mini rfl rfl) ?_
  refine RH.take 17 (by kernel_rfl) rfl rfl rfl rfl (fun w' hDr => V.addI rfl rfl (w64 (by omega) (by omega))) ?_
  refine RH.take 18 (by kernel_rfl) rfl rfl rfl rfl (fun w' hDr => V.as rfl) ?_
  refine RH.done (by kernel_rfl) (fun xd7 => ?_)
  refine Rn.reg (Rn.v rfl rfl rfl rfl (V.mv rfl) (Rn.v rfl rfl rfl rfl (V.mv rfl) (Rn.v rfl rfl rfl rfl (V.mv rfl) (Rn.v rfl rfl rfl rfl (V.nil rfl) (Rn.v rfl rfl rfl rfl (V.fa Tryz.underlying78 rfl Tryz.sizeOf51 rfl rfl) (Rn.v rfl rfl rfl rfl (V.ldB Tryz.isAgg51 rfl (hfB.ext x7) rfl) (Rn.v rfl rfl rfl rfl (V.mv rfl) (Rn.v rfl rfl rfl rfl (V.mv rfl) (Rn.v rfl rfl rfl rfl (V.cut3 (keepN f keep[i]?) Tryz.underlying51 Tryz.sizeOf5 rfl ⟨_, rfl, hkn.symm⟩ ⟨_, rfl, hkn.symm⟩ (by omega)) (Rn.v rfl rfl rfl rfl (V.mv rfl) (Rn.v rfl rfl rfl rfl (V.nil rfl) (Rn.v rfl rfl rfl rfl (V.fa Tryz.underlying78 rfl Tryz.sizeOf51 rfl rfl) (Rn.st rfl rfl Tryz.sizeOf51 rfl rfl rfl rfl (by first | exact ones rfl | (simp [Value.oneCell']; done)) (hfB.ext x7) (by first | exact Nat.le_of_ble_eq_true rfl | (simp; done)) ?_)))))))))))))
  intro w8 m8 x8
  have e8 : Fr F w w8 := ((x5.trans (Ext.fr x7))).trans' x8 (fun x hx => by subst hx; exact .inl hFF)
  refine Rn.v rfl rfl rfl rfl (V.nil rfl) (Rn.v rfl rfl rfl rfl (V.fa Tryz.underlying78 rfl Tryz.sizeOf3 rfl rfl) (Rn.st rfl rfl Tryz.sizeOf3 rfl rfl rfl rfl (by first | exact ones rfl | (simp [Value.oneCell']; done)) m8 (by first | exact Nat.le_of_ble_eq_true rfl | (simp; done)) ?_))
  intro w9 m9 x9
  have e9 : Fr F w w9 := (e8).trans' x9 (fun x hx => by subst hx; exact .inl hFF)
  refine Rn.regEnd (Rn.inBlock (Rn.reg (Rn.v rfl rfl rfl rfl (V.addI rfl rfl (w64 (by omega) (by omega))) (Rn.v rfl rfl rfl rfl (V.mv rfl) (Rn.regEnd ?_)))))
  have ea : (f.data.take (keepN f keep[i]?)).length = keepN f keep[i]? := by simp; omega
  obtain ⟨bss', hd⟩ := ht w9 ⟨f.data.take (keepN f keep[i]?), keepN f keep[i]?⟩ A1 (keepN f keep[i]?) { s.up with files := bootF keep 0 (s.up.names.take (i + 1)) s.files } (by dsimp only; rw [ea, hkn]; exact m9) ((hO.cap (q := keepN f keep[i]?) (by omega)).fr ((((Fr.refl (fun x => x = fb) _).trans (Ext.fr x7)).trans (x8.mono (fun y hy => by first | exact .inl hy | exact .inr hy | exact hy))).trans (x9.mono (fun y hy => by first | exact .inl hy | exact .inr hy | exact hy))) (fun _ hh => hh.elim) (fun x hx hh => (hoA x hx).2.1 hh)) (fun x hx => ⟨(hoA x hx).2.1, .inl hx⟩) (((((Fr.refl (fun x => x = fb) _).trans (Ext.fr x7)).trans (x8.mono (fun y hy => by first | exact .inl hy | exact .inr hy | exact hy))).trans (x9.mono (fun y hy => by first | exact .inl hy | exact .inr hy | exact hy))).mono fun x hx => .inl hx) (by rw [bootF_take hz, hq2])
  exact hn5 (i + 1) _ _ (Sub.cons rfl (Sub.cons (lki _ rfl (by first | omega | rfl | (dsimp only; omega))) (Sub.cons (lki _ rfl (by first | omega | rfl | (dsimp only; omega))) (Sub.cons rfl (Sub.cons rfl (Sub.nil _)))))) (⟨by omega, ⟨_, bss', hd, fun x hx => by rcases hx with hh | hh; exact hF5 x hh; exact hF5 x (hoA x hh).1⟩, o5.fr ((((Fr.refl (fun x => x = fb) _).trans (Ext.fr x7)).trans (x8.mono (fun y hy => by first | exact .inl hy | exact .inr hy | exact hy))).trans (x9.mono (fun y hy => by first | exact .inl hy | exact .inr hy | exact hy))) (fun _ hh => hh.elim) (fun x hx hh => by subst hh; have h1 := (hob5 x hx).1; have h2 := hltF x hFF; omega), e9⟩) (by omega)
  have hkn : ((keepN f keep[i]? : Nat) : Int) = f.sure := by rw [List.getElem?_eq_none (by omega), keepN_none]
  refine Rn.skip (Rn.reg (Rn.v rfl rfl rfl rfl (V.mv rfl) (Rn.v rfl rfl rfl rfl (V.mv rfl) (Rn.v rfl rfl rfl rfl (V.mv rfl) (Rn.v rfl rfl rfl rfl (V.nil rfl) (Rn.v rfl rfl rfl rfl (V.fa Tryz.underlying78 rfl Tryz.sizeOf51 rfl rfl) (Rn.v rfl rfl rfl rfl (V.ldB Tryz.isAgg51 rfl hfB rfl) (Rn.v rfl rfl rfl rfl (V.mv rfl) (Rn.v rfl rfl rfl rfl (V.mv rfl) (Rn.v rfl rfl rfl rfl (V.cut3 (keepN f keep[i]?) Tryz.underlying51 Tryz.sizeOf5 rfl ⟨_, rfl, hkn.symm⟩ ⟨_, rfl, hkn.symm⟩ (by omega)) (Rn.v rfl rfl rfl rfl (V.mv rfl) (Rn.v rfl rfl rfl rfl (V.nil rfl) (Rn.v rfl rfl rfl rfl (V.fa Tryz.underlying78 rfl Tryz.sizeOf51 rfl rfl) (Rn.st rfl rfl Tryz.sizeOf51 rfl rfl rfl rfl (by first | exact ones rfl | (simp [Value.oneCell']; done)) hfB (by first | exact Nat.le_of_ble_eq_true rfl | (simp; done)) ?_))))))))))))))
  intro w10 m10 x10
  have e10 : Fr F w w10 := (x5).trans' x10 (fun x hx => by subst hx; exact .inl hFF)
  refine Rn.v rfl rfl rfl rfl (V.nil rfl) (Rn.v rfl rfl rfl rfl (V.fa Tryz.underlying78 rfl Tryz.sizeOf3 rfl rfl) (Rn.st rfl rfl Tryz.sizeOf3 rfl rfl rfl rfl (by first | exact ones rfl | (simp [Value.oneCell']; done)) m10 (by first | exact Nat.le_of_ble_eq_true rfl | (simp; done)) ?_))
  intro w11 m11 x11
  have e11 : Fr F w w11 := (e10).trans' x11 (fun x hx => by subst hx; exact .inl hFF)
  refine Rn.regEnd (Rn.inBlock (Rn.reg (Rn.v rfl rfl rfl rfl (V.addI rfl rfl (w64 (by omega) (by omega))) (Rn.v rfl rfl rfl rfl (V.mv rfl) (Rn.regEnd ?_)))))
  have ea : (f.data.take (keepN f keep[i]?)).length = keepN f keep[i]? := by simp; omega
  obtain ⟨bss', hd⟩ := ht w11 ⟨f.data.take (keepN f keep[i]?), keepN f keep[i]?⟩ A1 (keepN f keep[i]?) { s.up with files := bootF keep 0 (s.up.names.take (i + 1)) s.files } (by dsimp only; rw [ea, hkn]; exact m11) ((hO.cap (q := keepN f keep[i]?) (by omega)).fr (((Fr.refl (fun x => x = fb) _).trans (x10.mono (fun y hy => by first | exact .inl hy | exact .inr hy | exact hy))).trans (x11.mono (fun y hy => by first | exact .inl hy | exact .inr hy | exact hy))) (fun _ hh => hh.elim) (fun x hx hh => (hoA x hx).2.1 hh)) (fun x hx => ⟨(hoA x hx).2.1, .inl hx⟩) ((((Fr.refl (fun x => x = fb) _).trans (x10.mono (fun y hy => by first | exact .inl hy | exact .inr hy | exact hy))).trans (x11.mono (fun y hy => by first | exact .inl hy | exact .inr hy | exact hy))).mono fun x hx => .inl hx) (by rw [bootF_take hz, hq2])
  exact hn5 (i + 1) _ _ (Sub.cons rfl (Sub.cons (lki _ rfl (by first | omega | rfl | (dsimp only; omega))) (Sub.cons (lki _ rfl (by first | omega | rfl | (dsimp only; omega))) (Sub.cons rfl (Sub.cons rfl (Sub.nil _)))))) (⟨by omega, ⟨_, bss', hd, fun x hx => by rcases hx with hh | hh; exact hF5 x hh; exact hF5 x (hoA x hh).1⟩, o5.fr (((Fr.refl (fun x => x = fb) _).trans (x10.mono (fun y hy => by first | exact .inl hy | exact .inr hy | exact hy))).trans (x11.mono (fun y hy => by first | exact .inl hy | exact .inr hy | exact hy))) (fun _ hh => hh.elim) (fun x hx hh => by subst hh; have h1 := (hob5 x hx).1; have h2 := hltF x hFF; omega), e11⟩) (by omega)
  refine Rn.exit rfl (Rn.seq (Rn.reg (Rn.v rfl rfl rfl rfl (V.as rfl) (Rn.regEnd ?_))))
  refine Rn.ret1 Tryz.func28 rfl rfl ?_
  have hr : s.boot keep = ({ s.up with files := bootF keep 0 s.up.names s.files }, 0) := if_pos (by simpa using q1)
  rw [List.take_of_length_le (by omega)] at d5
  exact ⟨by rw [hr]; first | done | rfl, F5, by rw [hr]; exact ⟨mb, ms, ck, bss5, d5⟩, x5, fun x hx => .inl (hF5 x hx)⟩

end Go.Proofs.YtlfppodekihcmaaGreatDoor
