/-
  Chapter 12: the laws PointBack and PointKeys hold, as plain forms; plain Lean.
-/
import Derived.Test.YtfcpdojcfogkbaaGreatR5
set_option linter.unusedVariables false
set_option linter.unusedSimpArgs false
namespace Go.Proofs.YtfcpdojcfogkbaaGreat
open Go Go.RowKit Go.Wk
theorem fall_of : ∀ {l : List Pr}, l.Pairwise (fun a b => Op.bytesLess a.Key b.Key = false) → fall l
  | [], _ => trivial
  | [_], _ => trivial
  | a :: b :: l, h => by
    have h' := List.pairwise_cons.1 h
    exact ⟨h'.1 b (by simp), fall_of h'.2⟩
theorem srt_srt (l : List Pr) : srt (srt l) = srt l := srt_id (fall_of (by rw [List.pairwise_reverse]; exact srt_le l))
theorem check_srt {name : Txt} {l : List Pr} (h : check name l = 0) : check name (srt l) = 0 := by
  obtain ⟨h1, h2, h3⟩ := check_ok h
  unfold check
  rw [if_pos h1, if_neg (by rw [srt_len]; omega)]
  exact chk_srt h3
theorem back_check {p : Pt} (h : check p.Name p.Attrs = 0) : m_point_Check (back p) = m_point_Check p := by
  unfold m_point_Check
  rw [check_eq, check_eq, show check (back p).Name (back p).Attrs = 0 from check_srt h, h]
  rfl
theorem ofNat_int {x : Int} (h : 0 ≤ x) : ((x.toNat : Nat) : Int) = x := by omega
theorem read_eq (p : Pt) (hp : ptOk p) (hc : m_point_Check p = some 0) (hi : okI p.Int_) (h1 : p.Hist.Pos.Counts.length ≤ 300) (h2 : p.Hist.Neg.Counts.length ≤ 300) : m_point_Read (bytesE p) = some (back p, 0) := by
  obtain ⟨k1, k2, t1, t2, f1, f2, s1, s2, s3⟩ := pt_nums hp
  have htl := text_len hp.1
  have hm1 : mono p.Mono ≤ 1 := by unfold mono; split <;> omega
  generalize hT : p.Name ++ texts (srt p.Attrs) = T at htl
  have g0 : (encT T).length ≤ 1000 := by have := enc_len_le (UInt64.ofNat T.length); unfold encT; simp only [List.length_append]; omega
  have g1 := enc_len_le (UInt64.ofNat p.Kind.toNat)
  have g2 := enc_len_le (UInt64.ofNat p.Temp.toNat)
  have g3 := enc_len_le (UInt64.ofNat (mono p.Mono))
  have g4 := enc_len_le (UInt64.ofNat p.Flags.toNat)
  have g5 := enc_len_le (UInt64.ofNat p.Start.toNat)
  have g6 := enc_len_le (UInt64.ofNat (p.Time - p.Start).toNat)
  have q1 := enc_len_le (zig p.Int_)
  have q2 := enc_len_le (zig p.Hist.Scale)
  have q3 := enc_len_le p.Hist.Zero
  have q4 := sideE_len p.Hist.Pos
  have q5 := sideE_len p.Hist.Neg
  have hv : (valE p).length ≤ 10000 := by
    unfold valE
    split
    · omega
    · split
      · simp [encF_len]
      · split
        · simp only [List.length_append]; omega
        · simp [encF_len]
  generalize hb : bytesE p = b
  have hb0 : b = encT T ++ (enc (UInt64.ofNat p.Kind.toNat) ++ (enc (UInt64.ofNat p.Temp.toNat) ++ (enc (UInt64.ofNat (mono p.Mono)) ++ (enc (UInt64.ofNat p.Flags.toNat) ++ (enc (UInt64.ofNat p.Start.toNat) ++ (enc (UInt64.ofNat (p.Time - p.Start).toNat) ++ valE p)))))) := by
    rw [← hb, bytesE, headE, hT]; simp only [List.append_assoc]
  have hbl : b.length ≤ 1000000000 := by rw [hb0]; simp only [List.length_append]; omega
  unfold m_point_Read
  rw [new_eq _ hbl, bndS]
  have r0 := rtext_eq [] T _ 400 (b := b) (at_ := 0) (by rw [List.nil_append]; exact hb0) rfl hbl (by omega) (by omega)
  rw [List.nil_append] at r0
  rw [show ((400 : Nat) : Int) = 400 from rfl] at r0
  rw [r0, bndS]
  have cnt : ∀ (pre post : List UInt8) (x : Int), 0 ≤ x → x ≤ 4503599627370496 → b = pre ++ (enc (UInt64.ofNat x.toNat) ++ post) → m_pack_Reader_Count ⟨b, (pre.length : Nat), 0⟩ 9007199254740992 = some (x, ⟨b, ((pre ++ enc (UInt64.ofNat x.toNat)).length : Nat), 0⟩) := by
    intro pre post x x0 x1 hx
    have := rcount_eq pre post x.toNat 9007199254740992 (b := b) hx rfl hbl (by omega) (by omega)
    rw [ofNat_int x0] at this
    exact this
  dsimp only
  rw [cnt (encT T) _ p.Kind (by omega) (by omega) (by rw [hb0]), bndS]
  dsimp only
  rw [cnt (encT T ++ enc (UInt64.ofNat p.Kind.toNat)) _ p.Temp (by omega) (by omega) (by rw [hb0]; simp only [List.append_assoc]; rfl), bndS]
  dsimp only
  rw [cnt (encT T ++ enc (UInt64.ofNat p.Kind.toNat) ++ enc (UInt64.ofNat p.Temp.toNat)) _ (mono p.Mono : Int) (by omega) (by omega) (by rw [hb0]; simp only [List.append_assoc, Int.toNat_natCast]; rfl), bndS]
  dsimp only
  rw [Int.toNat_natCast]
  rw [cnt (encT T ++ enc (UInt64.ofNat p.Kind.toNat) ++ enc (UInt64.ofNat p.Temp.toNat) ++ enc (UInt64.ofNat (mono p.Mono))) _ p.Flags (by omega) (by omega) (by rw [hb0]; simp only [List.append_assoc]; rfl), bndS]
  dsimp only
  rw [cnt (encT T ++ enc (UInt64.ofNat p.Kind.toNat) ++ enc (UInt64.ofNat p.Temp.toNat) ++ enc (UInt64.ofNat (mono p.Mono)) ++ enc (UInt64.ofNat p.Flags.toNat)) _ p.Start (by omega) (by omega) (by rw [hb0]; simp only [List.append_assoc]; rfl), bndS, jn_eq]
  dsimp only
  rw [cnt (encT T ++ enc (UInt64.ofNat p.Kind.toNat) ++ enc (UInt64.ofNat p.Temp.toNat) ++ enc (UInt64.ofNat (mono p.Mono)) ++ enc (UInt64.ofNat p.Flags.toNat) ++ enc (UInt64.ofNat p.Start.toNat)) (valE p) (p.Time - p.Start) (by omega) (by omega) (by rw [hb0]; simp only [List.append_assoc]), bndS]
  dsimp only
  have hv := value_eq (headE p) p ⟨[], [], p.Kind, p.Temp, false, p.Start, W64 (p.Start + (p.Time - p.Start)), 0, 0, 0, ⟨0, 0, ⟨0, []⟩, ⟨0, []⟩⟩, p.Flags⟩ hp hi (b := b) (by rw [← hb]; rfl) hbl rfl ⟨rfl, rfl, rfl, rfl⟩
  have hd : headE p = encT T ++ enc (UInt64.ofNat p.Kind.toNat) ++ enc (UInt64.ofNat p.Temp.toNat) ++ enc (UInt64.ofNat (mono p.Mono)) ++ enc (UInt64.ofNat p.Flags.toNat) ++ enc (UInt64.ofNat p.Start.toNat) ++ enc (UInt64.ofNat (p.Time - p.Start).toNat) := by unfold headE; rw [hT]; simp only [List.append_assoc]
  rw [hd] at hv
  rw [hv, bndS, jn_eq]
  dsimp only
  rw [if_pos rfl, done_eq _ hbl, bndS]
  have hpar : m_label_Parse T = some (p.Name, srt p.Attrs, 0, 0) := by rw [← hT, parse_eq _ (by rw [hT]; omega), parse_text hp.1]
  simp only [jn_eq, if_true, hpar, bndS]
  have hmono : decide ((mono p.Mono : Int) = 1) = p.Mono := by unfold mono; cases p.Mono <;> rfl
  rw [if_neg (by omega), hmono, W64_id (by omega) (by omega), show p.Start + (p.Time - p.Start) = p.Time by omega]
  have hbk := back_check hp.1
  unfold back at hbk
  rw [hc] at hbk
  simp only [if_true, hbk, bndS]
  rfl
end Go.Proofs.YtfcpdojcfogkbaaGreat
