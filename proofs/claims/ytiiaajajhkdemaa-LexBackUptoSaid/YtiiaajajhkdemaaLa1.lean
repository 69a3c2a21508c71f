/- What is defined and proved: what a lexer of the document's tokens answers, on lists of bytes, in plain Lean, with no program in sight; strings as lists of bytes. No condition. -/
import Derived.Test.YtiiaajajhkdemaaVc4
namespace Go.Proofs.Ytiiaajajhkdemaa.VA
open Go Go.RowKit
set_option linter.unusedSimpArgs false

/-! ### strings are lists of bytes -/
def ba (l : List UInt8) : ByteArray := ⟨l.toArray⟩
@[simp] theorem ba_size (l : List UInt8) : (ba l).size = l.length := by simp [ba, ByteArray.size]
@[simp] theorem ba_list (l : List UInt8) : (ba l).data.toList = l := by simp [ba]
theorem ba_inj {a b : List UInt8} : ba a = ba b ↔ a = b := ⟨fun h => by have := congrArg (fun x => x.data.toList) h; simpa using this, fun h => by rw [h]⟩
theorem ba_eta (s : ByteArray) : s = ba s.data.toList := by cases s; simp [ba]
@[go_sem] theorem mk_ba (l : List UInt8) : ByteArray.mk l.toArray = ba l := rfl
theorem ba_append (a b : List UInt8) : ba a ++ ba b = ba (a ++ b) := by
  rw [ba_eta (ba a ++ ba b)]
  congr 1
theorem ba_extract (l : List UInt8) (a b : Nat) : (ba l).extract a b = ba ((l.drop a).take (b - a)) := by
  rw [ba_eta ((ba l).extract a b)]
  congr 1
  simp [ba]
theorem ixs_ba {l : List UInt8} {n : Nat} (h : n < l.length) : ixs (some .string) (.lit (.string (ba l))) (some n) = some (.lit (.int .u8 ((l.getD n 0).toNat : Nat))) := by
  rw [ixs_str (by simpa using h)]
  simp [bAt]
theorem wrap64 {n : Int} (h1 : -9223372036854775808 ≤ n) (h2 : n ≤ 9223372036854775807) : IntKind.wrap .i64 n = n := by
  simp only [IntKind.wrap, IntKind.bits, IntKind.signed]
  simp
  omega
/-- Numbers that stay small. -/
theorem wrapN {a b : Nat} (h : a + b ≤ 9223372036854775807) : IntKind.wrap .i64 ((a : Int) + (b : Int)) = ((a + b : Nat) : Int) := by
  rw [wrap64 (by omega) (by omega)]; omega
theorem wrap1 {a : Nat} (h : a + 1 ≤ 9223372036854775807) : IntKind.wrap .i64 ((a : Int) + 1) = ((a + 1 : Nat) : Int) := by
  rw [wrap64 (by omega) (by omega)]; omega

/-! ### tokens -/
structure Tok where
  kind : Nat
  text : List UInt8
  at_ : Nat
def encTok (t : Tok) : List AV := [.lit (.int .i64 (t.kind : Nat)), .lit (.string (ba t.text)), .lit (.int .i64 (t.at_ : Nat))]
theorem sanL_encTok (t : Tok) : sanL (encTok t) = encTok t := by simp only [encTok, go_sem]
@[go_sem] theorem sanLL_encTok (l : List Tok) : sanLL (l.map encTok) = l.map encTok := sanLL_of encTok sanL_encTok l

/-! ### bytes -/
def isBlank (n : Nat) : Bool := n == 9 || n == 10 || n == 13 || n == 32
def isLetter (n : Nat) : Bool := (97 ≤ n && n ≤ 122) || (65 ≤ n && n ≤ 90)
def isDigit (n : Nat) : Bool := 48 ≤ n && n ≤ 57
def signs : List Nat := [123, 125, 40, 41, 44, 59, 46, 61, 43, 45, 42, 60, 38, 58]
def isSign (n : Nat) : Bool := signs.contains n
def inWord (n : Nat) : Bool := isLetter n || isDigit n || n == 95
def notNl (n : Nat) : Bool := n != 10
def cls (n : Nat) : Nat := if isBlank n then 1 else if n == 35 then 2 else if isLetter n then 3 else if isDigit n then 4 else if isSign n then 5 else 0
/-- How many bytes, from the first one on, hold. -/
def span (p : Nat → Bool) (l : List UInt8) : Nat := (l.takeWhile fun b => p b.toNat).length
theorem span_le (p : Nat → Bool) (l : List UInt8) : span p l ≤ l.length := by
  unfold span
  induction l with
  | nil => simp
  | cons x l ih => rw [List.takeWhile_cons]; split <;> simp <;> omega
theorem span_nil (p : Nat → Bool) : span p [] = 0 := rfl
theorem span_cons (p : Nat → Bool) (b : UInt8) (l : List UInt8) : span p (b :: l) = if p b.toNat then span p l + 1 else 0 := by
  unfold span
  rw [List.takeWhile_cons]
  split <;> simp
theorem span_pos {p : Nat → Bool} {b : UInt8} {l : List UInt8} (h : p b.toNat = true) : span p (b :: l) = span p l + 1 := by rw [span_cons, if_pos h]
theorem drop_cons {l : List UInt8} {n : Nat} (h : n < l.length) : l.drop n = l.getD n 0 :: l.drop (n + 1) := by
  rw [List.drop_eq_getElem_cons h, List.getD_eq_getElem?_getD, List.getElem?_eq_getElem h]
  rfl

/-! ### the lexer -/
inductive LexR where
  | ok (l : List Tok)
  | err (at_ : Nat)
def LexR.pre (acc : List Tok) : LexR → LexR
  | .ok l => .ok (acc ++ l)
  | .err a => .err a
theorem LexR.pre_pre (a b : List Tok) (r : LexR) : LexR.pre a (LexR.pre b r) = LexR.pre (a ++ b) r := by cases r <;> simp [LexR.pre]
theorem LexR.pre_nil (r : LexR) : LexR.pre [] r = r := by cases r <;> simp [LexR.pre]
/-- Is what stands behind digits no part of them? -/
def endsNum (l : List UInt8) : Bool :=
  match l with
  | [] => true
  | b :: _ => !inWord b.toNat
def lexF : Nat → List UInt8 → Nat → LexR
  | 0, _, at_ => .err at_
  | _ + 1, [], _ => .ok []
  | n + 1, b :: l, at_ =>
    match cls b.toNat with
    | 1 => lexF n l (at_ + 1)
    | 2 => lexF n ((b :: l).drop (span notNl (b :: l))) (at_ + span notNl (b :: l))
    | 3 => LexR.pre [⟨0, (b :: l).take (span inWord (b :: l)), at_⟩] (lexF n ((b :: l).drop (span inWord (b :: l))) (at_ + span inWord (b :: l)))
    | 4 =>
      if span isDigit (b :: l) ≤ 9 ∧ endsNum ((b :: l).drop (span isDigit (b :: l))) = true then
        LexR.pre [⟨1, (b :: l).take (span isDigit (b :: l)), at_⟩] (lexF n ((b :: l).drop (span isDigit (b :: l))) (at_ + span isDigit (b :: l)))
      else .err at_
    | 5 => LexR.pre [⟨2, [b], at_⟩] (lexF n l (at_ + 1))
    | _ => .err at_
/-- The tokens of bytes, the first of which stands at a place. -/
def lexL (l : List UInt8) (at_ : Nat) : LexR := lexF (l.length + 1) l at_
theorem cls_lt (n : Nat) : cls n ≤ 5 := by unfold cls; repeat (first | omega | split)
theorem cls2 {n : Nat} (h : cls n = 2) : notNl n = true := by
  unfold cls at h
  repeat' split at h
  all_goals first | omega | (rename_i h1; simp at h1; subst h1; rfl)
theorem cls3 {n : Nat} (h : cls n = 3) : inWord n = true := by
  unfold cls at h
  repeat' split at h
  all_goals first | omega | (rename_i h1; simp [inWord, h1])
theorem cls4 {n : Nat} (h : cls n = 4) : isDigit n = true := by
  unfold cls at h
  repeat' split at h
  all_goals first | omega | assumption
theorem lexF_more : ∀ (n : Nat) (l : List UInt8) (at_ m : Nat), l.length < n → l.length < m → lexF n l at_ = lexF m l at_ := by
  intro n
  induction n with
  | zero => intro l at_ m h; omega
  | succ n ih =>
    intro l at_ m h h'
    obtain ⟨m, rfl⟩ : ∃ k, m = k + 1 := ⟨m - 1, by omega⟩
    cases l with
    | nil => rfl
    | cons b l =>
      have step : ∀ (k : Nat), 0 < k → ∀ x, lexF n ((b :: l).drop k) x = lexF m ((b :: l).drop k) x := by
        intro k hk x
        refine ih _ _ _ ?_ ?_ <;> simp only [List.length_drop, List.length_cons] at h h' ⊢ <;> omega
      have step1 : ∀ x, lexF n l x = lexF m l x := fun x => step 1 (by omega) x
      simp only [lexF]
      split
      · exact step1 _
      · rename_i hc
        exact step _ (by rw [span_pos (cls2 hc)]; omega) _
      · rename_i hc
        rw [step _ (by rw [span_pos (cls3 hc)]; omega) _]
      · rename_i hc
        rw [step _ (by rw [span_pos (cls4 hc)]; omega) _]
      · rw [step1]
      · rfl
theorem lexF_eq {n : Nat} {l : List UInt8} {at_ : Nat} (h : l.length < n) : lexF n l at_ = lexL l at_ := lexF_more _ _ _ _ h (by omega)
theorem lexL_nil (at_ : Nat) : lexL [] at_ = .ok [] := rfl
theorem lexL_drop {b : UInt8} {l : List UInt8} {k at_ : Nat} (hk : 0 < k) : lexF (b :: l).length ((b :: l).drop k) at_ = lexL ((b :: l).drop k) at_ :=
  lexF_eq (by simp only [List.length_drop, List.length_cons]; omega)
theorem lexL_blank {b : UInt8} {l : List UInt8} {at_ : Nat} (h : cls b.toNat = 1) : lexL (b :: l) at_ = lexL l (at_ + 1) := by
  unfold lexL; simp only [lexF, h]; rfl
theorem lexL_remark {b : UInt8} {l : List UInt8} {at_ : Nat} (h : cls b.toNat = 2) : lexL (b :: l) at_ = lexL ((b :: l).drop (span notNl (b :: l))) (at_ + span notNl (b :: l)) := by
  conv => lhs; unfold lexL; simp only [lexF, h]
  exact lexL_drop (by rw [span_pos (cls2 h)]; omega)
theorem lexL_word {b : UInt8} {l : List UInt8} {at_ : Nat} (h : cls b.toNat = 3) : lexL (b :: l) at_ = LexR.pre [⟨0, (b :: l).take (span inWord (b :: l)), at_⟩] (lexL ((b :: l).drop (span inWord (b :: l))) (at_ + span inWord (b :: l))) := by
  conv => lhs; unfold lexL; simp only [lexF, h]
  rw [lexL_drop (by rw [span_pos (cls3 h)]; omega)]
theorem lexL_num {b : UInt8} {l : List UInt8} {at_ : Nat} (h : cls b.toNat = 4) (h2 : span isDigit (b :: l) ≤ 9) (h3 : endsNum ((b :: l).drop (span isDigit (b :: l))) = true) :
    lexL (b :: l) at_ = LexR.pre [⟨1, (b :: l).take (span isDigit (b :: l)), at_⟩] (lexL ((b :: l).drop (span isDigit (b :: l))) (at_ + span isDigit (b :: l))) := by
  conv => lhs; unfold lexL; simp only [lexF, h]
  rw [if_pos ⟨h2, h3⟩, lexL_drop (by rw [span_pos (cls4 h)]; omega)]
theorem lexL_notnum {b : UInt8} {l : List UInt8} {at_ : Nat} (h : cls b.toNat = 4) (h2 : ¬ (span isDigit (b :: l) ≤ 9 ∧ endsNum ((b :: l).drop (span isDigit (b :: l))) = true)) : lexL (b :: l) at_ = .err at_ := by
  conv => lhs; unfold lexL; simp only [lexF, h]
  rw [if_neg h2]
theorem lexL_sign {b : UInt8} {l : List UInt8} {at_ : Nat} (h : cls b.toNat = 5) : lexL (b :: l) at_ = LexR.pre [⟨2, [b], at_⟩] (lexL l (at_ + 1)) := by
  unfold lexL; simp only [lexF, h]; rfl
theorem lexL_other {b : UInt8} {l : List UInt8} {at_ : Nat} (h : cls b.toNat = 0) : lexL (b :: l) at_ = .err at_ := by
  unfold lexL; simp only [lexF, h]
/-- What a lexer hands back: tokens, code, place. -/
def lexAns (l : List UInt8) : List Tok × Nat × Nat :=
  if 65536 < l.length then ([], 11, 0)
  else match lexL l 0 with
    | .ok ts => (ts, 0, 0)
    | .err a => ([], 10, a)
def encFault (code at_ : Nat) : AV := .agg [.lit (.int .i64 (code : Nat)), .lit (.int .i64 (at_ : Nat))]
def encLex (r : List Tok × Nat × Nat) : AV := .tup [.sl .sh (r.1.map encTok), encFault r.2.1 r.2.2]
end Go.Proofs.Ytiiaajajhkdemaa.VA
