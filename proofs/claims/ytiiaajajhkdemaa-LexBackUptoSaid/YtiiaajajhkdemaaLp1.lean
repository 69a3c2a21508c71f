/- What is proved: plain laws of the lexer on lists of bytes: what a token by itself is; a token and what stands behind it; two texts with a byte 10 between. No program in sight. No condition. -/
import Derived.Test.YtiiaajajhkdemaaLb1
namespace Go.Proofs.Ytiiaajajhkdemaa.VA
open Go Go.RowKit
set_option linter.unusedSimpArgs false

def stops (p : Nat → Bool) (rest : List UInt8) : Prop :=
  match rest with
  | [] => True
  | c :: _ => p c.toNat = false
theorem span_app {p : Nat → Bool} {rest : List UInt8} (h : stops p rest) : ∀ l, span p (l ++ rest) = span p l
  | [] => by
    cases rest with
    | nil => rfl
    | cons c r => rw [List.nil_append, span_cons, span_nil, if_neg (by rw [show p c.toNat = false from h]; simp)]
  | b :: l => by
    rw [List.cons_append, span_cons, span_cons, span_app h l]
theorem stops_digit {rest : List UInt8} (h : stops inWord rest) : stops isDigit rest := by
  cases rest with
  | nil => trivial
  | cons c r =>
    have h' : inWord c.toNat = false := h
    show isDigit c.toNat = false
    cases hd : isDigit c.toNat with
    | false => rfl
    | true => rw [digit_word hd] at h'; cases h'
theorem stops_ends {rest : List UInt8} (h : stops inWord rest) : endsNum rest = true := by
  cases rest with
  | nil => rfl
  | cons c r => have h' : inWord c.toNat = false := h; simp [endsNum, h']
def tokOk (k : Nat) (t : List UInt8) : Prop :=
  (k = 0 ∧ ∃ b l, t = b :: l ∧ cls b.toNat = 3 ∧ span inWord t = t.length) ∨
  (k = 1 ∧ ∃ b l, t = b :: l ∧ cls b.toNat = 4 ∧ span isDigit t = t.length ∧ t.length ≤ 9) ∨
  (k = 2 ∧ ∃ b, t = [b] ∧ cls b.toNat = 5)
theorem lexL_tok {k : Nat} {t rest : List UInt8} {a : Nat} (h : tokOk k t) (hr : stops inWord rest) : lexL (t ++ rest) a = LexR.pre [⟨k, t, a⟩] (lexL rest (a + t.length)) := by
  rcases h with ⟨rfl, b, l, rfl, hc, hs⟩ | ⟨rfl, b, l, rfl, hc, hs, h9⟩ | ⟨rfl, b, rfl, hc⟩
  · rw [List.cons_append, lexL_word hc, ← List.cons_append, span_app hr, hs, List.take_left' rfl, List.drop_left' rfl]
  · have hs' := span_app (stops_digit hr) (b :: l)
    rw [hs] at hs'
    rw [List.cons_append, lexL_num hc, ← List.cons_append, hs', List.take_left' rfl, List.drop_left' rfl]
    · rw [← List.cons_append, hs']; exact h9
    · rw [← List.cons_append, hs', List.drop_left' rfl]; exact stops_ends hr
  · exact lexL_sign hc
theorem lexF_text : ∀ (n : Nat) (l : List UInt8) (a : Nat) (ts : List Tok), lexF n l a = .ok ts → ∀ t ∈ ts, t.text.length ≤ l.length := by
  intro n
  induction n with
  | zero => intro l a ts h; simp [lexF] at h
  | succ n ih =>
    intro l a ts h t ht
    cases l with
    | nil => simp [lexF] at h; subst h; simp at ht
    | cons b l =>
      have pre : ∀ (x : Tok) (r : LexR), LexR.pre [x] r = .ok ts → ∃ ts', r = .ok ts' ∧ ts = x :: ts' := by
        intro x r h
        cases r with
        | ok l => simp [LexR.pre] at h; subst h; exact ⟨l, rfl, rfl⟩
        | err a => simp [LexR.pre] at h
      simp only [lexF] at h
      split at h
      · have := ih _ _ _ h t ht; simp; omega
      · have := ih _ _ _ h t ht; simp at this ⊢; omega
      · obtain ⟨ts', h1, rfl⟩ := pre _ _ h
        rcases List.mem_cons.1 ht with rfl | ht
        · simp; omega
        · have := ih _ _ _ h1 t ht; simp at this ⊢; omega
      · split at h
        · obtain ⟨ts', h1, rfl⟩ := pre _ _ h
          rcases List.mem_cons.1 ht with rfl | ht
          · simp; omega
          · have := ih _ _ _ h1 t ht; simp at this ⊢; omega
        · cases h
      · obtain ⟨ts', h1, rfl⟩ := pre _ _ h
        rcases List.mem_cons.1 ht with rfl | ht
        · simp
        · have := ih _ _ _ h1 t ht; simp at this ⊢; omega
      · cases h
theorem lexL_text {l : List UInt8} {a : Nat} {ts : List Tok} (h : lexL l a = .ok ts) : ∀ t ∈ ts, t.text.length ≤ l.length := lexF_text _ _ _ _ h
theorem pre_ok {x : Tok} {r : LexR} {ts : List Tok} (h : LexR.pre [x] r = .ok ts) : ∃ ts', r = .ok ts' ∧ ts = x :: ts' := by
  cases r with
  | ok l => simp [LexR.pre] at h; subst h; exact ⟨l, rfl, rfl⟩
  | err a => simp [LexR.pre] at h
theorem lexL_first {s : List UInt8} {a : Nat} {x : Tok} (h : lexL s a = .ok [x]) (hx : x.text = s) : tokOk x.kind s := by
  cases s with
  | nil => rw [lexL_nil] at h; cases h
  | cons b l =>
    have hc := cls_lt b.toNat
    have short : ∀ {l' : List UInt8} {a' : Nat}, l'.length < (b :: l).length → lexL l' a' = .ok [x] → False := fun hl h => by
      have := lexL_text h x (by simp)
      rw [hx] at this; omega
    by_cases c1 : cls b.toNat = 1
    · rw [lexL_blank c1] at h
      exact (short (by simp) h).elim
    by_cases c2 : cls b.toNat = 2
    · rw [lexL_remark c2] at h
      refine (short ?_ h).elim
      rw [List.length_drop, span_pos (cls2 c2)]; simp; omega
    by_cases c3 : cls b.toNat = 3
    · rw [lexL_word c3] at h
      obtain ⟨ts', h1, h2⟩ := pre_ok h
      obtain ⟨rfl, rfl⟩ := List.cons.inj h2
      refine .inl ⟨rfl, b, l, rfl, c3, ?_⟩
      have := congrArg List.length hx
      have hle := span_le inWord (b :: l)
      simp only [List.length_take] at this
      omega
    by_cases c4 : cls b.toNat = 4
    · by_cases hn : span isDigit (b :: l) ≤ 9 ∧ endsNum ((b :: l).drop (span isDigit (b :: l))) = true
      · rw [lexL_num c4 hn.1 hn.2] at h
        obtain ⟨ts', h1, h2⟩ := pre_ok h
        obtain ⟨rfl, rfl⟩ := List.cons.inj h2
        have := congrArg List.length hx
        have hle := span_le isDigit (b :: l)
        simp only [List.length_take] at this
        exact .inr (.inl ⟨rfl, b, l, rfl, c4, by omega, by omega⟩)
      · rw [lexL_notnum c4 hn] at h; cases h
    by_cases c5 : cls b.toNat = 5
    · rw [lexL_sign c5] at h
      obtain ⟨ts', h1, h2⟩ := pre_ok h
      obtain ⟨rfl, rfl⟩ := List.cons.inj h2
      exact .inr (.inr ⟨rfl, b, hx.symm, c5⟩)
    · rw [lexL_other (by omega)] at h; cases h
theorem right_tok {K : Int} {t : List UInt8} (h : rightB K t = true) : ∃ k : Nat, K = (k : Int) ∧ tokOk k t ∧ t.length ≤ 65536 := by
  unfold rightB lexAns at h
  by_cases hb : 65536 < t.length
  · rw [if_pos hb] at h; cases h
  · rw [if_neg hb] at h
    cases hl : lexL t 0 with
    | err a => rw [hl] at h; cases h
    | ok ts =>
      rw [hl] at h
      simp only at h
      cases ts with
      | nil => cases h
      | cons x ts =>
        cases ts with
        | cons y ts => cases h
        | nil =>
          simp only [Bool.and_eq_true, decide_eq_true_eq] at h
          exact ⟨x.kind, h.1.symm, lexL_first hl h.2, by omega⟩
theorem tok_right {k : Nat} {t : List UInt8} (h : tokOk k t) (hl : t.length ≤ 65536) : rightB (k : Int) t = true := by
  have h1 := lexL_tok (a := 0) (rest := []) h trivial
  rw [List.append_nil, lexL_nil] at h1
  simp only [rightB, lexAns, if_neg (show ¬ 65536 < t.length by omega), h1, LexR.pre]
  simp
theorem word_kind {k : Nat} {t : List UInt8} (h : tokOk k t) (hk : (k : Int) = 0) : tokOk 0 t := by
  have : k = 0 := by omega
  subst this; exact h
/-- LexWords, plain. -/
theorem words_lex {s t : List UInt8} (hs : rightB 0 s = true) (ht : rightB 0 t = true) (hl : s.length ≤ 1000) (hl2 : t.length ≤ 1000) :
    lexAns (s ++ [32] ++ t) = ([⟨0, s, 0⟩, ⟨0, t, s.length + 1⟩], 0, 0) := by
  obtain ⟨k, hk, h1, _⟩ := right_tok hs
  obtain ⟨k', hk', h2, _⟩ := right_tok ht
  have h1 := word_kind h1 hk.symm
  have h2 := word_kind h2 hk'.symm
  have e1 := lexL_tok (a := 0) (rest := [32] ++ t) h1 (by rfl)
  have e2 : lexL ([32] ++ t) (0 + s.length) = lexL t (s.length + 1) := by rw [Nat.zero_add]; exact lexL_blank (by rfl)
  have e3 := lexL_tok (a := s.length + 1) (rest := []) h2 trivial
  rw [List.append_nil, lexL_nil] at e3
  rw [← List.append_assoc] at e1
  rw [e2, e3] at e1
  simp only [lexAns, if_neg (show ¬ 65536 < (s ++ [32] ++ t).length by simp; omega), e1, LexR.pre]
  rfl
end Go.Proofs.Ytiiaajajhkdemaa.VA
