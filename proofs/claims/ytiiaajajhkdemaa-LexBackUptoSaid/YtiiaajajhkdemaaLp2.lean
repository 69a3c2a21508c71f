/- What is proved: plain laws of the lexer on lists of bytes: two texts with a byte 10 between; places that are moved. No program in sight. No condition. -/
import Derived.Test.YtiiaajajhkdemaaLp1
namespace Go.Proofs.Ytiiaajajhkdemaa.VA
open Go Go.RowKit
set_option linter.unusedSimpArgs false

def Tok.up (d : Nat) (t : Tok) : Tok := ⟨t.kind, t.text, t.at_ + d⟩
def LexR.up (d : Nat) : LexR → LexR
  | .ok l => .ok (l.map (Tok.up d))
  | .err a => .err (a + d)
theorem LexR.up_pre (d : Nat) (l : List Tok) (r : LexR) : LexR.up d (LexR.pre l r) = LexR.pre (l.map (Tok.up d)) (LexR.up d r) := by cases r <;> simp [LexR.up, LexR.pre]
theorem lexF_up (d : Nat) : ∀ (n : Nat) (l : List UInt8) (a : Nat), lexF n l (a + d) = LexR.up d (lexF n l a) := by
  intro n
  induction n with
  | zero => intro l a; rfl
  | succ n ih =>
    intro l a
    cases l with
    | nil => rfl
    | cons b l =>
      have sw : ∀ k, a + d + k = a + k + d := fun k => by omega
      simp only [lexF]
      split
      · rw [sw, ih]
      · rw [sw, ih]
      · rw [sw, ih, LexR.up_pre]; rfl
      · split
        · rw [sw, ih, LexR.up_pre]; rfl
        · rfl
      · rw [sw, ih, LexR.up_pre]; rfl
      · rfl
theorem lexL_up (d : Nat) (l : List UInt8) (a : Nat) : lexL l (a + d) = LexR.up d (lexL l a) := lexF_up d _ l a
/-- One answer, and then another one's. -/
def LexR.andThen (r : LexR) (q : LexR) : LexR :=
  match r with
  | .ok ts => LexR.pre ts q
  | .err a => .err a
theorem LexR.pre_andThen (l : List Tok) (r q : LexR) : LexR.andThen (LexR.pre l r) q = LexR.pre l (LexR.andThen r q) := by
  cases r with
  | ok ts => exact (LexR.pre_pre l ts q).symm
  | err a => rfl
theorem lexL_parts (t : List UInt8) : ∀ (n : Nat) (s : List UInt8) (a : Nat), s.length < n → lexL (s ++ 10 :: t) a = LexR.andThen (lexL s a) (lexL t (a + s.length + 1)) := by
  intro n
  induction n with
  | zero => intro s a h; omega
  | succ n ih =>
    intro s a hn
    cases s with
    | nil =>
      rw [List.nil_append, lexL_blank (by rfl), lexL_nil]
      simp only [LexR.andThen, LexR.pre_nil]; rfl
    | cons b l =>
      have hc := cls_lt b.toNat
      have hs : ∀ p, p 10 = false → span p ((b :: l) ++ 10 :: t) = span p (b :: l) := fun p hp => span_app (show stops p (10 :: t) from hp) _
      have hle : ∀ p, span p (b :: l) ≤ (b :: l).length := fun p => span_le p _
      have hd : ∀ p, ((b :: l) ++ 10 :: t).drop (span p (b :: l)) = (b :: l).drop (span p (b :: l)) ++ 10 :: t := fun p => List.drop_append_of_le_length (hle p)
      have ht : ∀ p, ((b :: l) ++ 10 :: t).take (span p (b :: l)) = (b :: l).take (span p (b :: l)) := fun p => List.take_append_of_le_length (hle p)
      have step : ∀ p, 0 < span p (b :: l) → lexL ((b :: l).drop (span p (b :: l)) ++ 10 :: t) (a + span p (b :: l)) =
          LexR.andThen (lexL ((b :: l).drop (span p (b :: l))) (a + span p (b :: l))) (lexL t (a + (b :: l).length + 1)) := fun p hp => by
        rw [ih _ _ (by simp only [List.length_drop, List.length_cons] at hn ⊢; omega)]
        congr 2
        have := hle p
        simp only [List.length_drop]; omega
      rw [List.cons_append] at hs hd ht ⊢
      by_cases c1 : cls b.toNat = 1
      · rw [lexL_blank c1, lexL_blank c1, ih l _ (by simp at hn; omega)]
        congr 2; simp; omega
      by_cases c2 : cls b.toNat = 2
      · rw [lexL_remark c2, lexL_remark c2, hs notNl rfl, hd notNl, step notNl (by rw [span_pos (cls2 c2)]; omega)]
      by_cases c3 : cls b.toNat = 3
      · rw [lexL_word c3, lexL_word c3, hs inWord rfl, hd inWord, ht inWord, step inWord (by rw [span_pos (cls3 c3)]; omega), LexR.pre_andThen]
      by_cases c4 : cls b.toNat = 4
      · have he : endsNum ((b :: l).drop (span isDigit (b :: l)) ++ 10 :: t) = endsNum ((b :: l).drop (span isDigit (b :: l))) := by
          cases (b :: l).drop (span isDigit (b :: l)) with
          | nil => rfl
          | cons c r => rfl
        by_cases hnn : span isDigit (b :: l) ≤ 9 ∧ endsNum ((b :: l).drop (span isDigit (b :: l))) = true
        · rw [lexL_num c4 (by rw [hs isDigit rfl]; exact hnn.1) (by rw [hs isDigit rfl, hd isDigit, he]; exact hnn.2), lexL_num c4 hnn.1 hnn.2, hs isDigit rfl, hd isDigit, ht isDigit,
            step isDigit (by rw [span_pos (cls4 c4)]; omega), LexR.pre_andThen]
        · rw [lexL_notnum c4 (by rw [hs isDigit rfl, hd isDigit, he]; exact hnn), lexL_notnum c4 hnn]; rfl
      by_cases c5 : cls b.toNat = 5
      · rw [lexL_sign c5, lexL_sign c5, ih l _ (by simp at hn; omega), LexR.pre_andThen]
        congr 3; simp; omega
      · rw [lexL_other (by omega), lexL_other (by omega)]; rfl
theorem parts_lex (s t : List UInt8) : lexL (s ++ [10] ++ t) 0 = LexR.andThen (lexL s 0) (LexR.up (s.length + 1) (lexL t 0)) := by
  have h1 := lexL_parts t (s.length + 1) s 0 (by omega)
  have h2 := lexL_up (s.length + 1) t 0
  rw [List.append_assoc]
  simp only [Nat.zero_add] at h1 h2
  rw [h2] at h1
  exact h1
end Go.Proofs.Ytiiaajajhkdemaa.VA
