/-
  Chapter 12: a point's bytes are read as the point, as plain forms; plain Lean.
-/
import Derived.Test.YtfcpdojcfogkbaaGreatR3
set_option linter.unusedVariables false
set_option linter.unusedSimpArgs false
namespace Go.Proofs.YtfcpdojcfogkbaaGreat
open Go Go.RowKit Go.Wk
abbrev rdr (b : List UInt8) (pre : List UInt8) : T_point_reader := ⟨⟨b, (pre.length : Nat), 0⟩, 0⟩
theorem rsigned_eq (pre post : List UInt8) {x : Int} (h0 : -4503599627370496 ≤ x) (h1 : x ≤ 4503599627370496) {b : List UInt8} (hb : b = pre ++ (enc (zig x) ++ post)) (hl : b.length ≤ 1000000000) : m_point_reader_signed (rdr b pre) = some (x, rdr b (pre ++ enc (zig x))) := by
  unfold m_point_reader_signed
  have hx : okI x := ⟨by omega, by omega⟩
  dsimp only
  rw [rint_eq pre post hx hb rfl hl, bndS]
  have hz := zig_nat hx
  have : ¬ ((zig x).toNat : Int) > 9007199254740992 := by rw [hz]; split <;> omega
  simp only [jn_eq, m_pack_Reader_Err, bndS, if_true, decide_true, zig_eq hx, decide_eq_false this, Bool.false_eq_true, if_false]
theorem rsideL (n0 : Nat) (off : Int) (b : List UInt8) (pre post : List UInt8) (all : List UInt64) (hn0 : n0 = all.length) (hb : b = pre ++ (encs all ++ post)) (hl : b.length ≤ 1000000000) (hall : all.length ≤ 160) (j : T_point_reader → T_api_Side → Option (T_api_Side × T_point_reader)) :
    ∀ (q p : List UInt64) (n : Nat), p ++ q = all → q.length < n → m_point_reader_side_L1 (n0 : Int) j n (p.length : Int) (rdr b (pre ++ encs p)) ⟨off, p⟩ = j (rdr b (pre ++ encs all)) ⟨off, all⟩
  | [], p, n, hp, hn => by
    obtain ⟨n, rfl⟩ : ∃ m, n = m + 1 := ⟨n - 1, by omega⟩
    rw [List.append_nil] at hp; subst hp
    rw [m_point_reader_side_L1, jn_eq, if_neg (by omega)]
    simp only [jn_eq, Bool.false_eq_true, if_false]
  | x :: q, p, n, hp, hn => by
    obtain ⟨n, rfl⟩ : ∃ m, n = m + 1 := ⟨n - 1, by omega⟩
    have hlen := congrArg List.length hp
    simp only [List.length_append, List.length_cons] at hlen hn
    rw [m_point_reader_side_L1, jn_eq, if_pos (by omega)]
    simp only [jn_eq, m_pack_Reader_Err, bndS, if_true, decide_true]
    rw [rnum_eq (pre ++ encs p) (encs q ++ post) x (by rw [hb, ← hp]; simp [encs]) rfl hl, bndS]
    dsimp only
    rw [app_some (by simp; omega), bndS, W64_id (by omega) (by omega)]
    have ih := rsideL n0 off b pre post all hn0 hb hl hall j q (p ++ [x]) n (by simpa using hp) (by omega)
    have e : pre ++ encs (p ++ [x]) = pre ++ encs p ++ enc x := by simp [encs]
    rw [e, show ((p ++ [x]).length : Int) = (p.length : Int) + 1 by simp] at ih
    exact ih
theorem rside_eq (pre post : List UInt8) (s : T_api_Side) (hs : sideOk s) {b : List UInt8} (hb : b = pre ++ (sideE s ++ post)) (hl : b.length ≤ 1000000000) : m_point_reader_side (rdr b pre) = some (s, rdr b (pre ++ sideE s)) := by
  obtain ⟨h1, h2, h3, h4⟩ := hs
  obtain ⟨m, hm⟩ := fuelS 200 (by omega)
  unfold m_point_reader_side
  dsimp only
  refine jn_post (fun j => j (s.Counts.length : Int) (rdr b (pre ++ enc (UInt64.ofNat s.Counts.length))) = some (s, rdr b (pre ++ sideE s))) ?_ fun j hj => ?_
  · refine jn_post (fun j => j (rdr b (pre ++ enc (UInt64.ofNat s.Counts.length) ++ (if s.Counts = [] then [] else enc (zig s.Offset)))) ⟨s.Offset, []⟩ = some (s, rdr b (pre ++ sideE s))) ?_ fun j hj => ?_
    · rw [jn_eq]
      have := rsideL s.Counts.length s.Offset b (pre ++ enc (UInt64.ofNat s.Counts.length) ++ (if s.Counts = [] then [] else enc (zig s.Offset))) post s.Counts rfl (by rw [hb, sideE]; simp only [List.append_assoc]) hl h1 (fun y17 y18 => some (y18, y17)) s.Counts [] fuel (by simp) (by omega)
      rw [show encs [] = [] from rfl, List.append_nil] at this
      refine this.trans ?_
      unfold sideE; simp only [List.append_assoc]
    · by_cases hn : s.Counts = []
      · rw [if_neg (by simp [hn])]
        rw [if_pos hn, List.append_nil, h4 hn] at hj
        exact hj
      · have : 0 < s.Counts.length := List.length_pos_iff.2 hn
        rw [if_pos (by omega)]
        rw [rsigned_eq (x := s.Offset) (pre ++ enc (UInt64.ofNat s.Counts.length)) (encs s.Counts ++ post) (by omega) (by omega) (by rw [hb, sideE, if_neg hn]; simp only [List.append_assoc]) hl, bndS]
        rw [if_neg hn] at hj; exact hj
  · rw [if_pos rfl]
    have := rcount_eq pre ((if s.Counts = [] then [] else enc (zig s.Offset)) ++ encs s.Counts ++ post) s.Counts.length 160 (b := b) (by rw [hb, sideE]; simp only [List.append_assoc]) rfl hl h1 (by omega)
    rw [show ((160 : Nat) : Int) = 160 from rfl] at this
    rw [this, bndS]; exact hj
/-- A point as it is read. -/
def back (p : Pt) : Pt := { p with Attrs := srt p.Attrs }
def bare0 : T_api_Hist := ⟨0, 0, ⟨0, []⟩, ⟨0, []⟩⟩
theorem bare_hist {h : T_api_Hist} (hb : bareB h = true) : h = bare0 := by
  unfold bareB at hb
  rw [decide_eq_true_iff] at hb
  obtain ⟨a, b, c, d, e, f⟩ := hb
  obtain ⟨s, z, ⟨o1, c1⟩, ⟨o2, c2⟩⟩ := h
  simp only at a b c d e f
  subst a b c d e f; rfl
/-- The value is read into a point that has the head's numbers. -/
theorem value_eq (pre : List UInt8) (p q : Pt) (hp : ptOk p) (hi : okI p.Int_) {b : List UInt8} (hb : b = pre ++ valE p) (hl : b.length ≤ 1000000000) (hk : q.Kind = p.Kind) (h0 : q.Int_ = 0 ∧ q.Re = 0 ∧ q.Im = 0 ∧ q.Hist = bare0) :
    m_point_reader_value (rdr b pre) q = some (rdr b b, { q with Int_ := p.Int_, Re := p.Re, Im := p.Im, Hist := p.Hist }) := by
  obtain ⟨k1, k2, t1, t2, f1, f2, s1, s2, s3⟩ := pt_nums hp
  obtain ⟨q1, q2, q3, q4⟩ := h0
  have ho := hp.2.2.2.1
  unfold ownB at ho
  rw [decide_eq_true_iff] at ho
  obtain ⟨o1, o2, o3, o4, _⟩ := ho
  have hbl : b.length = (pre ++ valE p).length := by rw [hb]
  unfold m_point_reader_value
  dsimp only
  rw [hk]
  by_cases c1 : p.Kind = 1
  · have hv : valE p = enc (zig p.Int_) := by unfold valE; rw [if_pos c1]
    rw [hv] at hb
    rw [if_pos c1, rint_eq pre [] hi (by simpa using hb) rfl hl, bndS]
    rw [q2, q3, q4, o2 (by omega), o3 (by omega), bare_hist (o4 (by omega)), hb]
  · rw [if_neg c1, jn_eq]
    by_cases c23 : p.Kind = 2 ∨ p.Kind = 3
    · have hv : valE p = encF p.Re := by unfold valE; rw [if_neg c1, if_neg (by omega), if_neg (by omega)]
      rw [hv] at hb
      rw [rfix_eq pre [] p.Re (by simpa using hb) rfl hl]
      simp only [bndS]
      rw [← hb]
      rcases c23 with c | c
      · rw [if_pos c, decide_eq_true c, if_pos rfl, q1, q3, q4, o1 (by omega), o3 (by omega), bare_hist (o4 (by omega))]
      · rw [if_neg (by omega), decide_eq_true c, if_pos rfl, q1, q3, q4, o1 (by omega), o3 (by omega), bare_hist (o4 (by omega))]
    · rw [if_neg (by omega), decide_eq_false (by omega)]
      simp only [Bool.false_eq_true, if_false]
      by_cases c5 : p.Kind = 5
      · have hv : valE p = encF p.Re ++ encF p.Im := by unfold valE; rw [if_neg c1, if_pos c5]
        rw [hv] at hb
        rw [if_pos c5, rfix_eq pre (encF p.Im) p.Re hb rfl hl, bndS]
        dsimp only
        rw [rfix_eq (pre ++ encF p.Re) [] p.Im (by rw [hb]; simp) rfl hl, bndS]
        rw [q1, q4, o1 (by omega), bare_hist (o4 (by omega)), hb]; simp only [List.append_assoc]
      · have c4 : p.Kind = 4 := by omega
        have hv : valE p = enc (zig p.Hist.Scale) ++ (enc p.Hist.Zero ++ (sideE p.Hist.Pos ++ sideE p.Hist.Neg)) := by unfold valE; rw [if_neg c1, if_neg c5, if_pos c4]
        rw [hv] at hb
        obtain ⟨a1, a2, a3, a4⟩ := hp.2.2.2.2 c4
        rw [if_neg c5, if_pos c4, rsigned_eq (x := p.Hist.Scale) pre (enc p.Hist.Zero ++ (sideE p.Hist.Pos ++ sideE p.Hist.Neg)) (by omega) (by omega) hb hl, bndS, jn_eq]
        dsimp only
        rw [if_pos rfl, rnum_eq (pre ++ enc (zig p.Hist.Scale)) (sideE p.Hist.Pos ++ sideE p.Hist.Neg) p.Hist.Zero (by rw [hb]; simp) rfl hl, bndS]
        dsimp only
        rw [rside_eq (pre ++ enc (zig p.Hist.Scale) ++ enc p.Hist.Zero) (sideE p.Hist.Neg) p.Hist.Pos a3 (by rw [hb]; simp) hl, bndS]
        dsimp only
        rw [rside_eq (pre ++ enc (zig p.Hist.Scale) ++ enc p.Hist.Zero ++ sideE p.Hist.Pos) [] p.Hist.Neg a4 (by rw [hb]; simp) hl, bndS]
        rw [q1, q2, q3, o1 (by omega), o2 (by omega), o3 (by omega), hb]; simp only [List.append_assoc]
end Go.Proofs.YtfcpdojcfogkbaaGreat
