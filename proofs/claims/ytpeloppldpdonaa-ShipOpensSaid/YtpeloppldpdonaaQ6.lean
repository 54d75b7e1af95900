/-
  Chapter 25: the law ShipOpens, as a plain form; plain Lean.
-/
import Derived.Test.YtpeloppldpdonaaQ5
namespace Go.Proofs.Ytpeloppldpdonaa
open Go Go.RowKit Go.Wk
theorem u64_of (x : UInt8) : toU64 (x.toNat : Int) = x.toUInt64 := by
  apply UInt64.toNat_inj.1
  have := x.toNat_lt
  simp [toU64, UInt64.toNat_ofNat']; omega
theorem fixL_eq (b : List UInt8) (rd : T_pack_Reader) (j : UInt64 → Option (UInt64 × T_pack_Reader)) (h : b.length ≤ 8) : m_pack_Reader_Fix_L1 (b, rd) j fuel 0 0 = j (UInt64.ofNat (numL b)) := by
  rw [m_pack_Reader_Fix_L1_scan _ _ _ (by dsimp only; omega)]
  have := scanL_inv (l := b) (s := (0 : UInt64)) (J := fun ss => j ss) (B := fun ii xx ss kk => (some xx).bind fun z15 => kk (ss ||| (shl64 (toU64 ((z15).toNat : Int)) ((toU64 (W64 (8 * (ii : Int)))).toNat)))) (fun p s => s = UInt64.ofNat (numL p)) (fun p q _ => j (UInt64.ofNat (numL (p ++ q)))) rfl (fun s hs => by rw [hs]; simp) ?_
  · exact this
  · intro p x q s k hp hs hk
    have hpl : p.length < 8 := by rw [← hp] at h; simp at h; omega
    rw [bndS, hk]
    · simp
    · have hst := fix_step (p ++ [x]) p.length x hpl (by simp)
      have e1 : (p ++ [x]).take p.length = p := by simp
      have e2 : (p ++ [x]).take (p.length + 1) = p ++ [x] := by rw [List.take_of_length_le (by simp)]
      rw [e1, e2] at hst
      rw [hs, ← hst, u64_of]
      have e3 : (toU64 (W64 (8 * (p.length : Int)))).toNat = 8 * p.length := by
        rw [W64_id (by omega) (by omega)]
        simp [toU64, UInt64.toNat_ofNat']; omega
      rw [e3]
      unfold shl64
      rw [if_pos (by omega)]
theorem getL_eq (b : List UInt8) (j : UInt64 → Option T_limnographref02_Got) (h : b.length = 8) : ∀ (k n : Nat), k ≤ 8 → k < n → m_limnographref02_GetFix_L1 b 0 j n (UInt64.ofNat (numL (b.drop k))) ((k : Int) - 1) = j (UInt64.ofNat (numL b))
  | 0, n, _, hn => by
    obtain ⟨n, rfl⟩ : ∃ m, n = m + 1 := ⟨n - 1, by omega⟩
    rw [m_limnographref02_GetFix_L1, if_neg (by omega), List.drop_zero]
  | k + 1, n, hk, hn => by
    obtain ⟨n, rfl⟩ : ∃ m, n = m + 1 := ⟨n - 1, by omega⟩
    have ih := getL_eq b j h k n (by omega) (by omega)
    have hz : b[k]? = some b[k] := List.getElem?_eq_getElem (by omega)
    rw [m_limnographref02_GetFix_L1, if_pos (by omega), show ((k + 1 : Nat) : Int) - 1 = (k : Int) by omega, Int.zero_add, W64_id (by omega) (by omega), idx_nat, hz, bndS, W64_id (by omega) (by omega), u64_of]
    rw [numL_drop b k _ hz] at ih
    have e : (256 : UInt64) * UInt64.ofNat (numL (b.drop (k + 1))) + (b[k]).toUInt64 = UInt64.ofNat ((b[k]).toNat + 256 * numL (b.drop (k + 1))) := by
      apply UInt64.toNat_inj.1
      have := (b[k]).toNat_lt
      simp [UInt64.toNat_add, UInt64.toNat_mul, UInt64.toNat_ofNat']
      omega
    rw [e]; exact ih
theorem getL_some (b : List UInt8) (j : UInt64 → Option T_limnographref02_Got) (hj : ∀ v, ∃ r, j v = some r) (h : 8 ≤ b.length) : ∀ (k n : Nat) (v : UInt64), k ≤ 8 → k < n → ∃ r, m_limnographref02_GetFix_L1 b 0 j n v ((k : Int) - 1) = some r
  | 0, n, v, _, hn => by
    obtain ⟨n, rfl⟩ : ∃ m, n = m + 1 := ⟨n - 1, by omega⟩
    rw [m_limnographref02_GetFix_L1, if_neg (by omega)]; exact hj v
  | k + 1, n, v, hk, hn => by
    obtain ⟨n, rfl⟩ : ∃ m, n = m + 1 := ⟨n - 1, by omega⟩
    have hz : b[k]? = some b[k] := List.getElem?_eq_getElem (by omega)
    rw [m_limnographref02_GetFix_L1, if_pos (by omega), show ((k + 1 : Nat) : Int) - 1 = (k : Int) by omega, Int.zero_add, W64_id (z := (k : Int)) (by omega) (by omega), idx_nat, hz, bndS, W64_id (by omega) (by omega)]
    exact getL_some b j hj h k n _ (by omega) (by omega)
theorem get_eq (b : List UInt8) (h : b.length = 8) : m_limnographref02_GetFix b 0 = some ⟨UInt64.ofNat (numL b), 8, 0⟩ := by
  unfold m_limnographref02_GetFix
  rw [Int.sub_zero, W64_id (by omega) (by omega), if_neg (by omega), jn_eq]
  have := getL_eq b (fun y9 => some ⟨y9, 8, 0⟩) h 8 fuel (by omega) (by obtain ⟨m, hm⟩ := fuelS 9 (by omega); omega)
  rw [List.drop_of_length_le (by omega)] at this
  exact this
theorem firstF_len (l : List UInt8) : (firstF l).1.length ≤ l.length := by
  unfold firstF
  split
  · simp
  · split
    · simp
    · split
      · dsimp only
        split
        · simp
        · split
          · simp
          · split
            · simp
            · simp; omega
      · simp
theorem raw_short (b : List UInt8) (h : b.length < 8) : m_pack_Reader_Raw ⟨b, 0, 0⟩ 8 = some ([], ⟨b, 0, 2⟩) := by
  unfold m_pack_Reader_Raw m_pack_Reader_Left m_pack_Reader_fail
  rw [if_neg (by simp), if_neg (by omega), bndS]
  dsimp only
  rw [Int.sub_zero, W64_id (by omega) (by omega), if_pos (by omega), if_pos rfl]
  rfl
theorem raw_long (b : List UInt8) (h : 8 ≤ b.length) (hb : b.length ≤ 1000) : m_pack_Reader_Raw ⟨b, 0, 0⟩ 8 = some (b.take 8, ⟨b, 8, 0⟩) := by
  unfold m_pack_Reader_Raw m_pack_Reader_Left
  rw [if_neg (by simp), if_neg (by omega), bndS]
  dsimp only
  rw [Int.sub_zero, W64_id (by omega) (by omega), if_neg (by omega), show W64 (0 + 8) = 8 by decide, show W64 (8 - 8) = 0 by decide, cut_some (by omega) (by omega) (by omega), bndS, clone_eq _ (by simp; omega), bndS]
  rfl
theorem rfix_eq (b : List UInt8) (hb : b.length ≤ 1000) : ∃ e : Int, ∃ R : T_pack_Reader, (m_pack_Reader_Fix ⟨b, 0, 0⟩ = some (UInt64.ofNat (numL (b.take 8)), R) ∨ b.length < 8 ∧ m_pack_Reader_Fix ⟨b, 0, 0⟩ = some (0, R)) ∧ m_pack_Reader_Done R = some e ∧ (e = 0 ↔ b.length = 8) := by
  unfold m_pack_Reader_Fix
  by_cases h : b.length < 8
  · refine ⟨2, ⟨b, 0, 2⟩, .inr ⟨h, ?_⟩, ?_, by omega⟩
    · rw [raw_short b h, bndS, jn_eq, fixL_eq [] _ _ (by simp)]; rfl
    · unfold m_pack_Reader_Done
      rw [jn_eq, if_neg (by simp)]; rfl
  · refine ⟨if b.length = 8 then 0 else 3, ⟨b, 8, 0⟩, .inl ?_, ?_, by split <;> omega⟩
    · rw [raw_long b (by omega) hb, bndS, jn_eq, fixL_eq _ _ _ (by simp; omega)]
    · unfold m_pack_Reader_Done m_pack_Reader_Left
      rw [jn_eq, if_pos rfl, bndS]
      dsimp only
      rw [W64_id (by omega) (by omega)]
      by_cases h8 : b.length = 8
      · rw [if_neg (by simp; omega), if_pos h8]
      · rw [if_pos (by simp; omega), if_neg h8]
theorem sopen_eq (x : List UInt8) (h : x.length ≤ 300) : ∃ r : Option T_ship_Sender, ∃ e : Int, ∃ g : T_limnographref25_Got, m_ship_Open (pd x) = some (r, e, pd x) ∧ m_limnographref25_Open (rd x) = some (g, rd x) ∧ e = g.E ∧ (r.isNone = decide (e ≠ 0)) ∧ ∀ z, r = some z → z.ack = g.Ack := by
  unfold m_ship_Open m_limnographref25_Open
  rw [load_eq x h, rload_eq x h, bndS, bndS]
  by_cases hb : (fst3 x).2.2 ≠ 0 ∨ (fst3 x).2.1 ≠ x.length
  · rw [if_pos hb, if_pos hb]
    exact ⟨none, 15, ⟨0, false, 15⟩, rfl, rfl, rfl, rfl, fun z hz => by cases hz⟩
  · rw [if_neg hb, if_neg hb]
    dsimp only
    have hl : (fst3 x).1.length ≤ 300 := by have := firstF_len x; unfold fst3; dsimp only; omega
    generalize (fst3 x).1 = b at hl
    rw [if_neg (by simp), if_neg (by simp), if_neg (by simp)]
    have hnew : m_pack_NewReader b = some ⟨b, 0, 0⟩ := by unfold m_pack_NewReader; rw [clone_eq _ (by omega)]; rfl
    obtain ⟨e, R, hfix, hdone, he⟩ := rfix_eq b (by omega)
    rw [hnew, bndS]
    by_cases h8 : b.length = 8
    · rcases hfix with hfix | ⟨hlt, _⟩
      · rw [hfix, bndS, hdone, bndS, get_eq b h8, bndS]
        dsimp only
        have ht : b.take 8 = b := List.take_of_length_le (by omega)
        rw [ht]
        by_cases hv : ((UInt64.ofNat (numL b)).toNat : Int) > 4503599627370497
        · rw [if_pos (.inr hv), if_pos (.inr hv)]
          exact ⟨none, 15, ⟨0, false, 15⟩, rfl, rfl, rfl, rfl, fun z hz => by cases hz⟩
        · rw [if_neg (fun hh => hh.elim (fun h => h (he.2 h8)) hv), if_neg (fun hh => hh.elim (fun h => h (by omega)) hv)]
          exact ⟨_, 0, _, rfl, rfl, rfl, rfl, fun z hz => by cases hz; rfl⟩
      · omega
    · have he0 : e ≠ 0 := fun h => h8 (he.1 h)
      have hg : ∃ v, m_limnographref02_GetFix b 0 = some v := by
        unfold m_limnographref02_GetFix
        by_cases hlt : b.length < 8
        · rw [if_pos (by rw [Int.sub_zero, W64_id (by omega) (by omega)]; omega)]; exact ⟨_, rfl⟩
        · rw [if_neg (by rw [Int.sub_zero, W64_id (by omega) (by omega)]; omega), jn_eq]
          exact getL_some b _ (fun v => ⟨_, rfl⟩) (by omega) 8 fuel 0 (by omega) (by obtain ⟨m, hm⟩ := fuelS 9 (by omega); omega)
      obtain ⟨v, hv⟩ := hg
      rw [hv, bndS, if_pos (.inl (by omega))]
      rcases hfix with hfix | ⟨_, hfix⟩
      · rw [hfix, bndS, hdone, bndS, if_pos (.inl he0)]
        exact ⟨none, 15, ⟨0, false, 15⟩, rfl, rfl, rfl, rfl, fun z hz => by cases hz⟩
      · rw [hfix, bndS, hdone, bndS, if_pos (.inl he0)]
        exact ⟨none, 15, ⟨0, false, 15⟩, rfl, rfl, rfl, rfl, fun z hz => by cases hz⟩
theorem opens_law (x : List UInt8) : m_limnographlaw25_ShipOpens x = some true := by
  unfold m_limnographlaw25_ShipOpens
  rw [awake_eq, bndS, if_neg (by simp)]
  by_cases h : (x.length : Int) > 300
  · rw [if_pos h]
  · rw [if_neg h, new_eq x (by omega), bndS, rnew_eq x (by omega), bndS]
    simp only [jn_eq]
    obtain ⟨r, e, g, h1, h2, h3, h4, h5⟩ := sopen_eq x (by omega)
    rw [if_neg (by simp), if_neg (by simp), bndS, h1, bndS, bndS, h2, bndS]
    dsimp only
    rw [if_pos h3, if_pos h4]
    cases r with
    | none => rfl
    | some z =>
      rw [if_neg (by simp), bndS]
      unfold m_ship_Sender_Ack
      rw [bndS, h5 z rfl]; simp
end Go.Proofs.Ytpeloppldpdonaa
