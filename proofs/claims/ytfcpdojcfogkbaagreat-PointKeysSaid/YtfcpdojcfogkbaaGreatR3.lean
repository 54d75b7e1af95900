/-
  Chapter 12: what a point's bytes are, as plain forms; plain Lean.
-/
import Derived.Test.YtfcpdojcfogkbaaGreatR2
set_option linter.unusedVariables false
set_option linter.unusedSimpArgs false
namespace Go.Proofs.YtfcpdojcfogkbaaGreat
open Go Go.RowKit Go.Wk
theorem toU64_nn {x : Int} (h0 : 0 ≤ x) (h1 : x < 9223372036854775808) : toU64 x = UInt64.ofNat x.toNat := by unfold toU64; congr 1; omega
def encs (l : List UInt64) : List UInt8 := l.flatMap enc
theorem encs_len (l : List UInt64) : (encs l).length ≤ 9 * l.length := by
  induction l with
  | nil => simp [encs]
  | cons x l ih => have := enc_len_le x; simp only [encs, List.flatMap_cons, List.length_append, List.length_cons] at ih ⊢; omega
def sideE (s : T_api_Side) : List UInt8 := enc (UInt64.ofNat s.Counts.length) ++ ((if s.Counts = [] then [] else enc (zig s.Offset)) ++ encs s.Counts)
theorem sideE_len (s : T_api_Side) : (sideE s).length ≤ 9 * s.Counts.length + 18 := by
  have := enc_len_le (UInt64.ofNat s.Counts.length)
  have := enc_len_le (zig s.Offset)
  have := encs_len s.Counts
  unfold sideE
  split <;> simp only [List.length_append, List.length_nil] <;> omega
theorem wside_eq (b : List UInt8) (s : T_api_Side) (hs : sideOk s) (hb : b.length ≤ 100000) : m_point_side ⟨b⟩ s = some ⟨b ++ sideE s⟩ := by
  unfold m_point_side
  obtain ⟨h1, h2, h3, h4⟩ := hs
  have hl := enc_len_le (UInt64.ofNat s.Counts.length)
  have hz := enc_len_le (zig s.Offset)
  rw [toU64_nn (by omega) (by omega), Int.toNat_natCast, wnum_eq _ _ (by omega), bndS]
  refine jn_post (fun j => ∀ c : List UInt8, c.length ≤ 200000 → j ⟨c⟩ = some ⟨c ++ encs s.Counts⟩) (fun c hc => ?_) fun j hj => ?_
  · rw [jn_eq, m_point_side_L1_scan _ _ _ (by omega)]
    refine scanL_inv (fun (p : List UInt64) (w : T_pack_Writer) => w = ⟨c ++ encs p⟩) (fun (_ _ : List UInt64) (_ : T_pack_Writer) => some (⟨c ++ encs s.Counts⟩ : T_pack_Writer)) (by simp [encs]) (fun w hw => by rw [hw]) fun p x q w k hp hw hk => ?_
    have hpl := encs_len p
    have hpp : p.length ≤ 160 := by have := congrArg List.length hp; simp at this; omega
    rw [hw, bndS, wnum_eq _ _ (by simp; omega), bndS]
    exact hk _ (by simp [encs])
  · by_cases hn : s.Counts = []
    · rw [if_neg (by simp [hn])]
      rw [hj _ (by simp; omega)]
      simp [sideE, hn]
    · have : 0 < s.Counts.length := List.length_pos_iff.2 hn
      rw [if_pos (by omega), wint_eq _ (by constructor <;> omega) (by simp; omega), bndS, hj _ (by simp; omega)]
      simp [sideE, hn]
def mono (b : Bool) : Nat := if b = true then 1 else 0
def valE (p : Pt) : List UInt8 := if p.Kind = 1 then enc (zig p.Int_) else if p.Kind = 5 then encF p.Re ++ encF p.Im else if p.Kind = 4 then enc (zig p.Hist.Scale) ++ (enc p.Hist.Zero ++ (sideE p.Hist.Pos ++ sideE p.Hist.Neg)) else encF p.Re
def headE (p : Pt) : List UInt8 := encT (p.Name ++ texts (srt p.Attrs)) ++ (enc (UInt64.ofNat p.Kind.toNat) ++ (enc (UInt64.ofNat p.Temp.toNat) ++ (enc (UInt64.ofNat (mono p.Mono)) ++ (enc (UInt64.ofNat p.Flags.toNat) ++ (enc (UInt64.ofNat p.Start.toNat) ++ enc (UInt64.ofNat (p.Time - p.Start).toNat))))))
def bytesE (p : Pt) : List UInt8 := headE p ++ valE p
theorem pt_nums {p : Pt} (h : ptOk p) : 1 ≤ p.Kind ∧ p.Kind ≤ 5 ∧ 0 ≤ p.Temp ∧ p.Temp ≤ 2 ∧ 0 ≤ p.Flags ∧ p.Flags ≤ 31 ∧ 0 ≤ p.Start ∧ p.Start ≤ p.Time ∧ p.Time ≤ 4503599627370496 := by
  obtain ⟨_, hk, ht, ho, _⟩ := h
  unfold kindsB at hk
  unfold timesB at ht
  unfold ownB at ho
  rw [decide_eq_true_iff] at ht ho
  obtain ⟨t1, t2, t3⟩ := ht
  obtain ⟨_, _, _, _, o1, o2⟩ := ho
  by_cases h3 : p.Kind = 3
  · rw [if_pos h3] at hk t3
    rw [decide_eq_true_iff] at hk
    omega
  · rw [if_neg h3] at hk t3
    simp only [Bool.and_eq_true, decide_eq_true_iff] at hk
    omega
theorem encF_len (v : UInt64) : (encF v).length = 8 := fix_len _ _
theorem bytes_eq (p : Pt) (h1 : p.Hist.Pos.Counts.length ≤ 300) (h2 : p.Hist.Neg.Counts.length ≤ 300) (hi : okI p.Int_) : ∃ e, m_point_Check p = some e ∧ (e = 0 → ptOk p) ∧ m_point_Bytes p = some (if e = 0 then (bytesE p, 0) else ([], e)) := by
  obtain ⟨e, he, ok⟩ := pcheck_ok p (by omega) (by omega)
  refine ⟨e, he, ok, ?_⟩
  unfold m_point_Bytes
  rw [he, bndS]
  by_cases h0 : e = 0
  · rw [if_neg (by simpa using h0), if_pos h0]
    have hp := ok h0
    obtain ⟨k1, k2, t1, t2, f1, f2, s1, s2, s3⟩ := pt_nums hp
    have htl := text_len hp.1
    have hT : m_label_Text p.Name p.Attrs = some (p.Name ++ texts (srt p.Attrs), 0) := by rw [text_eq, text, if_pos hp.1]
    have hbit : m_point_bit p.Mono = some (mono p.Mono : Int) := by unfold m_point_bit mono; cases p.Mono <;> rfl
    have hm1 : mono p.Mono ≤ 1 := by unfold mono; split <;> omega
    unfold m_pack_NewWriter
    rw [bndS, hT, bndS]
    dsimp only
    rw [wtext_eq _ _ (by simp) (by omega), bndS, hbit, bndS, List.nil_append]
    have g0 : (encT (p.Name ++ texts (srt p.Attrs))).length ≤ 1000 := by have := enc_len_le (UInt64.ofNat (p.Name ++ texts (srt p.Attrs)).length); unfold encT; simp only [List.length_append] at htl this ⊢; omega
    have g1 := enc_len_le (UInt64.ofNat p.Kind.toNat)
    have g2 := enc_len_le (UInt64.ofNat p.Temp.toNat)
    have g3 := enc_len_le (UInt64.ofNat (mono p.Mono))
    have g4 := enc_len_le (UInt64.ofNat p.Flags.toNat)
    have g5 := enc_len_le (UInt64.ofNat p.Start.toNat)
    have g6 := enc_len_le (UInt64.ofNat (p.Time - p.Start).toNat)
    have gh : (headE p).length ≤ 2000 := by unfold headE; simp only [List.length_append]; omega
    refine jn_post (fun j => j ⟨headE p⟩ = some (bytesE p, 0)) ?_ fun j hj => ?_
    · refine jn_post (fun j => j ⟨bytesE p⟩ = some (bytesE p, 0)) ?_ fun j hj => ?_
      · have hv : (valE p).length ≤ 10000 := by
          have q1 := enc_len_le (zig p.Int_)
          have q2 := enc_len_le (zig p.Hist.Scale)
          have q3 := enc_len_le p.Hist.Zero
          have q4 := sideE_len p.Hist.Pos
          have q5 := sideE_len p.Hist.Neg
          unfold valE
          split
          · omega
          · split
            · simp [encF_len]
            · split
              · simp only [List.length_append]; omega
              · simp [encF_len]
        unfold m_pack_Writer_Bytes
        rw [clone_eq _ (by unfold bytesE; simp only [List.length_append]; omega)]; rfl
      · by_cases c1 : p.Kind = 1
        · have hv : valE p = enc (zig p.Int_) := by unfold valE; rw [if_pos c1]
          rw [if_pos c1, wint_eq _ hi (by omega), bndS, ← hv]; exact hj
        · rw [if_neg c1]
          by_cases c5 : p.Kind = 5
          · have hv : valE p = encF p.Re ++ encF p.Im := by unfold valE; rw [if_neg c1, if_pos c5]
            rw [if_pos c5, wfix_eq _ _ (by omega), bndS, wfix_eq _ _ (by simp [encF_len]; omega), bndS, List.append_assoc, ← hv]; exact hj
          · rw [if_neg c5]
            by_cases c4 : p.Kind = 4
            · have hv : valE p = enc (zig p.Hist.Scale) ++ (enc p.Hist.Zero ++ (sideE p.Hist.Pos ++ sideE p.Hist.Neg)) := by unfold valE; rw [if_neg c1, if_neg c5, if_pos c4]
              obtain ⟨a1, a2, a3, a4⟩ := hp.2.2.2.2 c4
              have q2 := enc_len_le (zig p.Hist.Scale)
              have q3 := enc_len_le p.Hist.Zero
              have q4 := sideE_len p.Hist.Pos
              rw [if_pos c4, wint_eq _ (by constructor <;> omega) (by omega), bndS, wnum_eq _ _ (by simp; omega), bndS, wside_eq _ _ a3 (by simp; omega), bndS, wside_eq _ _ a4 (by simp; omega), bndS]
              simp only [List.append_assoc]
              rw [← hv]; exact hj
            · have hv : valE p = encF p.Re := by unfold valE; rw [if_neg c1, if_neg c5, if_neg c4]
              rw [if_neg c4, wfix_eq _ _ (by omega), bndS, ← hv]; exact hj
    · obtain ⟨m, hm⟩ := fuelS 7 (by omega)
      have w1 : W64 (p.Time - p.Start) = p.Time - p.Start := W64_id (by omega) (by omega)
      have st : ∀ (n : Nat) (i : Nat) (c : List UInt8) (z : Int), i < 6 → ([p.Kind, p.Temp, (mono p.Mono : Int), p.Flags, p.Start, p.Time - p.Start] : List Int)[i]? = some z → 0 ≤ z → z < 9223372036854775808 → c.length ≤ 5000 →
          m_point_Bytes_L1 p (mono p.Mono) j (n + 1) (i : Int) ⟨c⟩ = m_point_Bytes_L1 p (mono p.Mono) j n ((i + 1 : Nat) : Int) ⟨c ++ enc (UInt64.ofNat z.toNat)⟩ := by
        intro n i c z hi hz z0 z1 hc
        rw [m_point_Bytes_L1, if_pos (by simp; omega), w1, idx_nat, hz, bndS, toU64_nn z0 z1, wnum_eq _ _ (by omega), bndS, W64_id (by omega) (by omega)]; rfl
      rw [hm, show (0 : Int) = ((0 : Nat) : Int) from rfl, show m + 7 = (m + 6) + 1 from rfl]
      rw [st (m + 6) 0 _ p.Kind (by omega) rfl (by omega) (by omega) (by omega)]
      rw [st (m + 5) 1 _ p.Temp (by omega) rfl (by omega) (by omega) (by simp; omega)]
      rw [st (m + 4) 2 _ (mono p.Mono : Int) (by omega) rfl (by omega) (by omega) (by simp; omega)]
      rw [st (m + 3) 3 _ p.Flags (by omega) rfl (by omega) (by omega) (by simp; omega)]
      rw [st (m + 2) 4 _ p.Start (by omega) rfl (by omega) (by omega) (by simp; omega)]
      rw [st (m + 1) 5 _ (p.Time - p.Start) (by omega) rfl (by omega) (by omega) (by simp; omega)]
      rw [m_point_Bytes_L1, if_neg (by simp)]
      simp only [headE] at hj
      simp only [List.append_assoc, Int.toNat_natCast]
      exact hj
  · rw [if_pos h0, if_neg h0]
end Go.Proofs.YtfcpdojcfogkbaaGreat
