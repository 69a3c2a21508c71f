/- What is proved: a plain law of the lexer on lists of bytes: a blank or a remark ahead of a token changes nothing but places. No program in sight. No condition. -/
import Derived.Test.YtiiaajajhkdemaaLp2
namespace Go.Proofs.Ytiiaajajhkdemaa.VA
open Go Go.RowKit
set_option linter.unusedSimpArgs false

theorem span_take (p : Nat → Bool) : ∀ l, span p (l.take (span p l)) = span p l
  | [] => rfl
  | b :: l => by
    rw [span_cons]
    split
    · rename_i h
      rw [List.take_succ_cons, span_cons, if_pos h, span_take p l]
    · rfl
theorem len_take_span (p : Nat → Bool) (l : List UInt8) : (l.take (span p l)).length = span p l := by
  have := span_le p l; rw [List.length_take]; omega
/-- What stands behind a span. -/
theorem stops_drop (p : Nat → Bool) : ∀ l : List UInt8, stops p (l.drop (span p l))
  | [] => trivial
  | b :: l => by
    rw [span_cons]
    split
    · rw [List.drop_succ_cons]; exact stops_drop p l
    · rename_i h
      show p b.toNat = false
      simpa using h
theorem ends_stops {l : List UInt8} (h : endsNum l = true) : stops inWord l := by
  cases l with
  | nil => trivial
  | cons c r => show inWord c.toNat = false; simpa [endsNum] using h
theorem stops_pre {p : Nat → Bool} {s1 s2 X : List UInt8} (h : stops p (s1 ++ s2)) (hX : stops p X) : stops p (s1 ++ X) := by
  cases s1 with
  | nil => exact hX
  | cons c r => exact h
theorem gap_split : ∀ (n : Nat) (s : List UInt8) (a : Nat) (ts : List Tok), s.length < n → lexL s a = .ok ts → ∀ (i : Nat) (x : Tok), ts[i]? = some x →
    ∃ s1 c r, s = s1 ++ c :: r ∧ x.at_ = a + s1.length ∧ lexL (c :: r) x.at_ = .ok (ts.drop i) ∧ 3 ≤ cls c.toNat ∧
      ∀ X, stops inWord X → lexL (s1 ++ X) a = LexR.pre (ts.take i) (lexL X x.at_) := by
  intro n
  induction n with
  | zero => intro s a ts h; omega
  | succ n ih =>
    intro s a ts hn h i x hx
    cases s with
    | nil => rw [lexL_nil] at h; cases h; simp at hx
    | cons b l =>
      have hc := cls_lt b.toNat
      have here : 3 ≤ cls b.toNat → ∀ t ts', ts = t :: ts' → t.at_ = a → i = 0 → ∃ s1 c r, b :: l = s1 ++ c :: r ∧ x.at_ = a + s1.length ∧ lexL (c :: r) x.at_ = .ok (ts.drop i) ∧ 3 ≤ cls c.toNat ∧
          ∀ X, stops inWord X → lexL (s1 ++ X) a = LexR.pre (ts.take i) (lexL X x.at_) := by
        intro h3 t ts' hts hat hi
        subst hi; subst hts
        simp at hx
        subst hx
        refine ⟨[], b, l, rfl, by simp [hat], by rw [hat]; exact h, h3, fun X _ => ?_⟩
        rw [hat]; simp [LexR.pre_nil]
      by_cases c1 : cls b.toNat = 1
      · rw [lexL_blank c1] at h
        obtain ⟨s1, c, r, e1, e2, e3, e4, e5⟩ := ih l (a + 1) ts (by simp at hn; omega) h i x hx
        refine ⟨b :: s1, c, r, by rw [e1]; rfl, by rw [e2]; simp; omega, e3, e4, fun X hX => ?_⟩
        rw [List.cons_append, lexL_blank c1, e5 X hX]
      by_cases c2 : cls b.toNat = 2
      · rw [lexL_remark c2] at h
        have hk : 0 < span notNl (b :: l) := by rw [span_pos (cls2 c2)]; omega
        generalize hkk : span notNl (b :: l) = k at h hk
        have hle : k ≤ (b :: l).length := by rw [← hkk]; exact span_le _ _
        obtain ⟨s1, c, r, e1, e2, e3, e4, e5⟩ := ih _ (a + k) ts (by simp only [List.length_drop, List.length_cons] at hn hle ⊢; omega) h i x hx
        have hst := stops_drop notNl (b :: l)
        rw [hkk, e1] at hst
        have hlen : ((b :: l).take k).length = k := by rw [List.length_take]; omega
        have hne : s1 ≠ [] := by
          intro h0; subst h0
          have h10 : notNl c.toNat = false := hst
          have : c.toNat = 10 := by simpa [notNl] using h10
          rw [this] at e4
          revert e4; decide
        refine ⟨(b :: l).take k ++ s1, c, r, by rw [List.append_assoc, ← e1, List.take_append_drop], by rw [e2, List.length_append, hlen]; omega, e3, e4, fun X hX => ?_⟩
        obtain ⟨y, s1', rfl⟩ : ∃ y s1', s1 = y :: s1' := by cases s1 with | nil => exact absurd rfl hne | cons y s1' => exact ⟨y, s1', rfl⟩
        have hst2 : stops notNl ((y :: s1') ++ X) := hst
        have hsp : span notNl ((b :: l).take k ++ ((y :: s1') ++ X)) = k := by
          rw [span_app hst2, ← hkk, span_take]
        obtain ⟨k', rfl⟩ : ∃ k', k = k' + 1 := ⟨k - 1, by omega⟩
        rw [List.append_assoc]
        have e6 : (b :: l).take (k' + 1) ++ ((y :: s1') ++ X) = b :: (l.take k' ++ ((y :: s1') ++ X)) := rfl
        rw [e6] at hsp ⊢
        rw [lexL_remark c2, hsp, ← e6, List.drop_left' hlen]
        exact e5 X hX
      by_cases c3 : cls b.toNat = 3
      · rw [lexL_word c3] at h
        obtain ⟨ts', h1, h2⟩ := pre_ok h
        cases i with
        | zero => exact here (by omega) _ _ h2 rfl rfl
        | succ i =>
          subst h2
          have hk : 0 < span inWord (b :: l) := by rw [span_pos (cls3 c3)]; omega
          have htk := span_take inWord (b :: l)
          have hlt := len_take_span inWord (b :: l)
          have hst := stops_drop inWord (b :: l)
          generalize hkk : span inWord (b :: l) = k at h1 hk htk hlt hst
          obtain ⟨s1, c, r, e1, e2, e3, e4, e5⟩ := ih _ (a + k) ts' (by simp only [List.length_drop, List.length_cons] at hn ⊢; omega) h1 i x (by simpa using hx)
          rw [e1] at hst
          refine ⟨(b :: l).take k ++ s1, c, r, by rw [List.append_assoc, ← e1, List.take_append_drop], by rw [e2, List.length_append, hlt]; omega, e3, e4, fun X hX => ?_⟩
          obtain ⟨k', rfl⟩ : ∃ k', k = k' + 1 := ⟨k - 1, by omega⟩
          rw [List.append_assoc, lexL_tok (k := 0) (t := (b :: l).take (k' + 1)) (.inl ⟨rfl, b, l.take k', rfl, c3, by rw [htk, hlt]⟩) (stops_pre hst hX), hlt, e5 X hX, LexR.pre_pre]
          rfl
      by_cases c4 : cls b.toNat = 4
      · by_cases hnn : span isDigit (b :: l) ≤ 9 ∧ endsNum ((b :: l).drop (span isDigit (b :: l))) = true
        · rw [lexL_num c4 hnn.1 hnn.2] at h
          obtain ⟨ts', h1, h2⟩ := pre_ok h
          cases i with
          | zero => exact here (by omega) _ _ h2 rfl rfl
          | succ i =>
            subst h2
            have hk : 0 < span isDigit (b :: l) := by rw [span_pos (cls4 c4)]; omega
            have htk := span_take isDigit (b :: l)
            have hlt := len_take_span isDigit (b :: l)
            have hst := ends_stops hnn.2
            have h9 := hnn.1
            generalize hkk : span isDigit (b :: l) = k at h1 hk htk hlt hst h9
            obtain ⟨s1, c, r, e1, e2, e3, e4, e5⟩ := ih _ (a + k) ts' (by simp only [List.length_drop, List.length_cons] at hn ⊢; omega) h1 i x (by simpa using hx)
            rw [e1] at hst
            refine ⟨(b :: l).take k ++ s1, c, r, by rw [List.append_assoc, ← e1, List.take_append_drop], by rw [e2, List.length_append, hlt]; omega, e3, e4, fun X hX => ?_⟩
            obtain ⟨k', rfl⟩ : ∃ k', k = k' + 1 := ⟨k - 1, by omega⟩
            rw [List.append_assoc, lexL_tok (k := 1) (t := (b :: l).take (k' + 1)) (.inr (.inl ⟨rfl, b, l.take k', rfl, c4, by rw [htk, hlt], by rw [hlt]; exact h9⟩)) (stops_pre hst hX), hlt, e5 X hX, LexR.pre_pre]
            rfl
        · rw [lexL_notnum c4 hnn] at h; cases h
      by_cases c5 : cls b.toNat = 5
      · rw [lexL_sign c5] at h
        obtain ⟨ts', h1, h2⟩ := pre_ok h
        cases i with
        | zero => exact here (by omega) _ _ h2 rfl rfl
        | succ i =>
          subst h2
          obtain ⟨s1, c, r, e1, e2, e3, e4, e5⟩ := ih l (a + 1) ts' (by simp at hn; omega) h1 i x (by simpa using hx)
          refine ⟨b :: s1, c, r, by rw [e1]; rfl, by rw [e2]; simp; omega, e3, e4, fun X hX => ?_⟩
          rw [List.cons_append, lexL_sign c5, e5 X hX, LexR.pre_pre]
          rfl
      · rw [lexL_other (by omega)] at h; cases h
def gapL (j : Nat) : List UInt8 :=
  match j with
  | 0 => [32]
  | 1 => [10, 9]
  | 2 => [35, 32, 97, 32, 123, 114, 101, 109, 97, 114, 107, 32, 63, 10]
  | _ => [13, 10, 35, 32, 49, 97, 10, 32]
theorem gap_lex (j : Nat) (s : List UInt8) (a : Nat) : lexL (gapL j ++ s) a = lexL s (a + (gapL j).length) := by
  match j with
  | 0 => exact lexL_blank (by rfl)
  | 1 => exact (lexL_blank (by rfl)).trans (lexL_blank (by rfl))
  | 2 =>
    have h : span notNl (gapL 2 ++ s) = 13 := rfl
    have h2 : lexL (gapL 2 ++ s) a = lexL ((gapL 2 ++ s).drop (span notNl (gapL 2 ++ s))) (a + span notNl (gapL 2 ++ s)) := lexL_remark (by rfl)
    rw [h2, h]
    exact lexL_blank (by rfl)
  | (k + 3) =>
    have h : span notNl ([35, 32, 49, 97, 10, 32] ++ s) = 4 := rfl
    have h2 : lexL ([35, 32, 49, 97, 10, 32] ++ s) (a + 1 + 1) = lexL (([35, 32, 49, 97, 10, 32] ++ s).drop (span notNl ([35, 32, 49, 97, 10, 32] ++ s))) (a + 1 + 1 + span notNl ([35, 32, 49, 97, 10, 32] ++ s)) := lexL_remark (by rfl)
    rw [h] at h2
    refine (lexL_blank (by rfl)).trans ((lexL_blank (by rfl)).trans (h2.trans ((lexL_blank (by rfl)).trans (lexL_blank (by rfl)))))
theorem gap_stops (j : Nat) (s : List UInt8) : stops inWord (gapL j ++ s) := by
  match j with
  | 0 => rfl
  | 1 => rfl
  | 2 => rfl
  | (k + 3) => rfl
/-- LexGaps, plain. -/
theorem gaps_lex {s : List UInt8} {ts : List Tok} (h : lexL s 0 = .ok ts) {i : Nat} {x : Tok} (hx : ts[i]? = some x) (j : Nat) :
    x.at_ ≤ s.length ∧ lexL (s.take x.at_ ++ gapL j ++ s.drop x.at_) 0 = .ok (ts.take i ++ (ts.drop i).map (Tok.up (gapL j).length)) := by
  obtain ⟨s1, c, r, e1, e2, e3, e4, e5⟩ := gap_split (s.length + 1) s 0 ts (by omega) h i x hx
  have hat : x.at_ = s1.length := by omega
  have ht : s.take x.at_ = s1 := by rw [e1, hat]; exact List.take_left' rfl
  have hd : s.drop x.at_ = c :: r := by rw [e1, hat]; exact List.drop_left' rfl
  refine ⟨by rw [hat, e1]; simp, ?_⟩
  rw [ht, hd, List.append_assoc, e5 _ (gap_stops j _), gap_lex, lexL_up, e3]
  rfl
end Go.Proofs.Ytiiaajajhkdemaa.VA
