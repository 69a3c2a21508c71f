/- What is proved: plain laws of the lexer on lists of bytes: what is read may be; what may be is read from its print as it was. No program in sight. No condition. -/
import Derived.Test.YtiiaajajhkdemaaLp3
import Derived.Test.YtiiaajajhkdemaaLf1
namespace Go.Proofs.Ytiiaajajhkdemaa.VA
open Go Go.RowKit
set_option linter.unusedSimpArgs false

theorem lexF_ok : ∀ (n : Nat) (l : List UInt8) (a : Nat) (ts : List Tok), lexF n l a = .ok ts → ∀ t ∈ ts, tokOk t.kind t.text := by
  intro n
  induction n with
  | zero => intro l a ts h; simp [lexF] at h
  | succ n ih =>
    intro l a ts h t ht
    cases l with
    | nil => simp [lexF] at h; subst h; simp at ht
    | cons b l =>
      simp only [lexF] at h
      split at h
      · exact ih _ _ _ h t ht
      · exact ih _ _ _ h t ht
      · rename_i hc
        obtain ⟨ts', h1, rfl⟩ := pre_ok h
        rcases List.mem_cons.1 ht with rfl | ht
        · obtain ⟨k, hk⟩ : ∃ k, span inWord (b :: l) = k + 1 := ⟨_, span_pos (cls3 hc)⟩
          refine .inl ⟨rfl, b, l.take k, by simp [hk], hc, ?_⟩
          simp only
          rw [span_take, len_take_span]
        · exact ih _ _ _ h1 t ht
      · rename_i hc
        split at h
        · rename_i hh
          obtain ⟨ts', h1, rfl⟩ := pre_ok h
          rcases List.mem_cons.1 ht with rfl | ht
          · obtain ⟨k, hk⟩ : ∃ k, span isDigit (b :: l) = k + 1 := ⟨_, span_pos (cls4 hc)⟩
            refine .inr (.inl ⟨rfl, b, l.take k, by simp [hk], hc, ?_, ?_⟩)
            · simp only
              rw [span_take, len_take_span]
            · simp only
              rw [len_take_span]; exact hh.1
          · exact ih _ _ _ h1 t ht
        · cases h
      · rename_i hc
        obtain ⟨ts', h1, rfl⟩ := pre_ok h
        rcases List.mem_cons.1 ht with rfl | ht
        · exact .inr (.inr ⟨rfl, b, rfl, hc⟩)
        · exact ih _ _ _ h1 t ht
      · cases h
theorem lex_right {l : List UInt8} {ts : List Tok} (hl : l.length ≤ 65536) (h : lexL l 0 = .ok ts) : (ts.map Tok.g).all rightG = true := by
  rw [List.all_eq_true]
  intro g hg
  obtain ⟨t, ht, rfl⟩ := List.mem_map.1 hg
  have hlen : t.text.length ≤ 65536 := by have := lexL_text h t ht; omega
  exact tok_right (lexF_ok _ _ _ _ h t ht) hlen
/-- The texts' lengths, added up, of what is read. -/
def textSum (l : List GTok) : Nat := (l.map fun t => t.text.length).sum
theorem join_len (sep : List UInt8) : ∀ (l : List GTok), (joined sep (l.map (·.text))).length ≤ textSum l + sep.length * l.length
  | [] => by simp [joined, Lib.join_nil]
  | t :: l => by
    have h : joined sep ((t :: l).map (·.text)) = t.text ++ Lib.joinTail sep (l.map (·.text)) := by rw [List.map_cons]; exact Lib.join_cons _ _ _
    rw [h, List.length_append, Lib.joinTail_length]
    have h2 : Lib.lens (l.map (·.text)) = textSum l := by simp [Lib.lens, textSum, Function.comp_def]
    have h3 : textSum (t :: l) = t.text.length + textSum l := by simp [textSum]
    rw [h2, h3, List.length_map, List.length_cons, Nat.mul_succ]
    omega
theorem lexF_sum : ∀ (n : Nat) (l : List UInt8) (a : Nat) (ts : List Tok), lexF n l a = .ok ts → textSum (ts.map Tok.g) ≤ l.length := by
  intro n
  induction n with
  | zero => intro l a ts h; simp [lexF] at h
  | succ n ih =>
    intro l a ts h
    have sum : ∀ (x : Tok) (ts : List Tok), textSum ((x :: ts).map Tok.g) = x.text.length + textSum (ts.map Tok.g) := fun x ts => by simp [textSum, Tok.g]
    cases l with
    | nil => simp [lexF] at h; subst h; simp [textSum]
    | cons b l =>
      simp only [lexF] at h
      have hle : ∀ q, span q (b :: l) ≤ (b :: l).length := fun q => span_le q _
      split at h
      · have := ih _ _ _ h; simp; omega
      · have := ih _ _ _ h; have := hle notNl; simp only [List.length_drop] at *; omega
      · obtain ⟨ts', h1, rfl⟩ := pre_ok h
        have := ih _ _ _ h1; have := hle inWord
        rw [sum, len_take_span]; simp only [List.length_drop] at *; omega
      · split at h
        · obtain ⟨ts', h1, rfl⟩ := pre_ok h
          have := ih _ _ _ h1; have := hle isDigit
          rw [sum, len_take_span]; simp only [List.length_drop] at *; omega
        · cases h
      · obtain ⟨ts', h1, rfl⟩ := pre_ok h
        have := ih _ _ _ h1
        rw [sum]; simp; omega
      · cases h
/-- What may be is read from its print as it was, but for its places. -/
theorem lex_tail : ∀ (l : List GTok) (a : Nat), l.all rightG = true → ∃ ts, lexL (Lib.joinTail [32] (l.map (·.text))) a = .ok ts ∧ (ts.map Tok.g).map plainG = l.map plainG
  | [], a, _ => ⟨[], rfl, rfl⟩
  | t :: l, a, h => by
    rw [List.all_cons, Bool.and_eq_true] at h
    obtain ⟨k, hk, h1, _⟩ := right_tok (show rightB t.kind t.text = true from h.1)
    obtain ⟨ts, h2, h3⟩ := lex_tail l (a + 1 + t.text.length) h.2
    have e : Lib.joinTail [32] ((t :: l).map (·.text)) = 32 :: (t.text ++ Lib.joinTail [32] (l.map (·.text))) := by simp [Lib.joinTail]
    have hst : stops inWord (Lib.joinTail [32] (l.map (·.text))) := by
      cases l with
      | nil => trivial
      | cons y l => rfl
    refine ⟨⟨k, t.text, a + 1⟩ :: ts, ?_, ?_⟩
    · rw [e, lexL_blank (by rfl), lexL_tok h1 hst, h2]; rfl
    · simp only [List.map_cons, h3, List.cons.injEq, and_true]
      simp [Tok.g, plainG, hk]
theorem lex_back {l : List GTok} (h : l.all rightG = true) : ∃ ts, lexL (joined [32] (l.map (·.text))) 0 = .ok ts ∧ (ts.map Tok.g).map plainG = l.map plainG := by
  cases l with
  | nil => exact ⟨[], rfl, rfl⟩
  | cons t l =>
    rw [List.all_cons, Bool.and_eq_true] at h
    obtain ⟨k, hk, h1, _⟩ := right_tok (show rightB t.kind t.text = true from h.1)
    obtain ⟨ts, h2, h3⟩ := lex_tail l (0 + t.text.length) h.2
    have e : joined [32] ((t :: l).map (·.text)) = t.text ++ Lib.joinTail [32] (l.map (·.text)) := by rw [List.map_cons]; exact Lib.join_cons _ _ _
    have hst : stops inWord (Lib.joinTail [32] (l.map (·.text))) := by
      cases l with
      | nil => trivial
      | cons y l => rfl
    refine ⟨⟨k, t.text, 0⟩ :: ts, ?_, ?_⟩
    · rw [e, lexL_tok h1 hst, h2]; rfl
    · simp only [List.map_cons, h3, List.cons.injEq, and_true]
      simp [Tok.g, plainG, hk]
end Go.Proofs.Ytiiaajajhkdemaa.VA
