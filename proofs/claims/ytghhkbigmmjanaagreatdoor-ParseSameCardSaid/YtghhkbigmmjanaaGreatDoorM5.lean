/- What is proved: facts on this program's types, and which of its functions the abstract interpreter (VA) runs. No condition.
What is proved: what the lexer's functions of one byte answer, in the abstract interpreter (VA). No condition.
What is proved: what the program's lexer answers, in the abstract interpreter (VA), for every string. No condition.
What is proved: what the program's lexer answers, in the abstract interpreter (VA), for every string. No condition.
What is proved: what the reference's functions of one byte answer, in the abstract interpreter (VA), for every byte. No condition.
What is proved: what the reference's lexer answers, in the abstract interpreter (VA), for every string: what the program's lexer answers. No condition.
What is proved: facts on tokens of any kind in the abstract interpreter (VA). No condition.
What is proved: what May, Word, Print and the law's fixed calls answer, in the abstract interpreter (VA). Condition: no more tokens than a counter tells, no longer print than a machine holds.
What is proved: facts on the types of programs and parsers, and how their cells are read and laid, in the abstract interpreter (VA). No condition.
What is proved: plain laws of the lexer: no more tokens than bytes. No program in sight. No condition.
What is proved: plain laws of the lexer on lists of bytes: what a token by itself is; a token and what stands behind it; two texts with a byte 10 between. No program in sight. No condition.
What is proved: what the reference's functions on a token and on the next token answer, in the abstract interpreter (VA). Condition: no more tokens than a machine holds.
What is proved: what the reference's parser's small functions answer, in the abstract interpreter (VA). Condition: no more tokens than a machine holds. -/
import Derived.Test.YtghhkbigmmjanaaGreatDoorM3
import Derived.Test.YtghhkbigmmjanaaGreatDoorProg
import Derived.Test.YtghhkbigmmjanaaGreatDoorM4
/-! Cf -/
namespace Go.Proofs.YtghhkbigmmjanaaGreatDoor.VA
open Go Go.RowKit
set_option linter.unusedSimpArgs false
set_option maxRecDepth 100000

/-! ### types -/
@[go_sem] theorem und_int : Tryz.prog.underlying 3 = some (.int .i64) := by kernel_rfl
@[go_sem] theorem und_bool : Tryz.prog.underlying 4 = some .bool := by kernel_rfl
@[go_sem] theorem und_u8 : Tryz.prog.underlying 5 = some (.int .u8) := by kernel_rfl
@[go_sem] theorem und_string : Tryz.prog.underlying 9 = some .string := by kernel_rfl
@[go_sem] theorem el_tok : tElem Tryz.prog 45 = some (66, 3, 32) := by kernel_rfl
@[go_sem] theorem el_str : tElem Tryz.prog 37 = some (9, 1, 16) := by kernel_rfl
@[go_sem] theorem fl_tok0 : tField Tryz.prog 66 0 = some (0, 1, false) := by kernel_rfl
@[go_sem] theorem fl_tok1 : tField Tryz.prog 66 1 = some (1, 1, false) := by kernel_rfl
@[go_sem] theorem fl_tok2 : tField Tryz.prog 66 2 = some (2, 1, false) := by kernel_rfl
@[go_sem] theorem fl_fault0 : tField Tryz.prog 27 0 = some (0, 1, false) := by kernel_rfl
@[go_sem] theorem fl_fault1 : tField Tryz.prog 27 1 = some (1, 1, false) := by kernel_rfl
@[go_sem] theorem bl_tok : tBuild Tryz.prog 66 = some ([(0, 1), (1, 1), (2, 1)], [.lit (.int .i64 0), .lit (.string ⟨#[]⟩), .lit (.int .i64 0)]) := by kernel_rfl
@[go_sem] theorem bl_fault : tBuild Tryz.prog 27 = some ([(0, 1), (1, 1)], [.lit (.int .i64 0), .lit (.int .i64 0)]) := by kernel_rfl
@[go_sem] theorem zr_tok : tZero Tryz.prog 66 = some [.lit (.int .i64 0), .lit (.string ⟨#[]⟩), .lit (.int .i64 0)] := by kernel_rfl
@[go_sem] theorem zr_fault : tZero Tryz.prog 27 = some [.lit (.int .i64 0), .lit (.int .i64 0)] := by kernel_rfl
@[go_sem] theorem zo_tok : zeroOk Tryz.prog 66 3 = true := by kernel_rfl
@[go_sem] theorem zo_str : zeroOk Tryz.prog 9 1 = true := by kernel_rfl
@[go_sem] theorem sz_tok : tSize Tryz.prog 66 = some 3 := by kernel_rfl
@[go_sem] theorem sz_fault : tSize Tryz.prog 27 = some 2 := by kernel_rfl
@[go_sem] theorem sz_int : tSize Tryz.prog 3 = some 1 := by kernel_rfl
@[go_sem] theorem sz_str : tSize Tryz.prog 9 = some 1 := by kernel_rfl
@[go_sem] theorem ag_tok : tAgg Tryz.prog 66 = some true := by kernel_rfl
@[go_sem] theorem ag_fault : tAgg Tryz.prog 27 = some true := by kernel_rfl
@[go_sem] theorem ag_int : tAgg Tryz.prog 3 = some false := by kernel_rfl
@[go_sem] theorem ag_str : tAgg Tryz.prog 9 = some false := by kernel_rfl

/-! ### the functions -/
def idxByte : List UInt8 → Nat → Nat → Int
  | [], _, _ => -1
  | x :: l, c, i => if x.toNat = c then (i : Int) else idxByte l c (i + 1)
def tIndexByte : List AV → Option AV
  | [.lit (.string s), .lit (.int .u8 c)] => if c.toNat < 256 then some (.lit (.int .i64 (idxByte s.data.toList c.toNat 0))) else none
  | _ => none
def tAtoi : List AV → Option AV
  | [.lit (.string s)] =>
    if s.data.toList.all (fun b => isDigit b.toNat) = true ∧ 1 ≤ s.data.toList.length ∧ s.data.toList.length ≤ 18 then some (.tup [.lit (.int .i64 (numOf s.data.toList : Nat)), .lit .nilIface]) else none
  | _ => none
/-- Tokens, from what represents them. -/
def toks : List (List AV) → Option (List GTok)
  | [] => some []
  | [.lit (.int .i64 k), .lit (.string t), .lit (.int .i64 a)] :: r => (toks r).map (⟨k, t.data.toList, a⟩ :: ·)
  | _ => none
theorem toks_enc : ∀ (l : List GTok), toks (l.map encG) = some l
  | [] => rfl
  | t :: l => by simp only [List.map_cons, encG, toks, toks_enc l, Option.map_some, ba_list]
def encRead (r : List GFunc × Nat × Int) : AV := .tup [.agg [.sl .sh (r.1.map encFunc)], .agg [.lit (.int .i64 (r.2.1 : Nat)), .lit (.int .i64 r.2.2)]]
def LM : Nat := 549755813888
def tRead : List AV → Option AV
  | [.sl _ es, .lit (.int .i64 en)] =>
    match toks es with
    | some l => if l.length ≤ LM then some (encRead (readP l en)) else none
    | none => none
  | _ => none
def runs : List FuncId := [
  26,
  28,
  121,
  125,
  46,
  47,
  48,
  49,
  50,
  51,
  54,
  55,
  56,
  57,
  58,
  67,
  3,
  4,
  13,
  29,
  14,
  12,
  11,
  59,
  60,
  61,
  62,
  63,
  17,
  15,
  30,
  31,
  86,
  87,
  88,
  89,
  33,
  36,
  40,
  105,
  106,
  16,
  117,
  118,
  32,
  34,
  35,
  64,
  26]
/-- The functions that write to their caller's memory. -/
def writes : List FuncId := [
  53,
  81,
  82,
  83,
  84,
  85,
  100,
  101,
  102,
  103,
  104,
  113,
  114,
  115,
  116,
  123,
  128,
  129,
  139,
  140]
noncomputable def cfg : Cfg where
  fn := fun f => if (runs.contains f || writes.contains f) = true then Tryz.prog.funcs[f]? else none
  imp := fun f => writes.contains f
  told := fun f =>
    if f = 80 then some tIndexByte else
    if f = 44 then some tJoin else
    if f = 122 then some tAtoi else
    none
/-- The same, with the parser's reader told. -/
noncomputable def cfg2 : Cfg := { cfg with told := fun f => if f = 27 then some tRead else cfg.told f }
def fnOk (P : Program) (f : FuncId) : Bool :=
  match P.funcs[f]? with
  | some fn => !(fn.name == "runtime.NumGoroutine") && (match fn.body with | some code => codeOk fn.ntmps code | none => true)
  | none => true
theorem runs_ok : (runs ++ writes).all (fnOk Tryz.prog) = true := by kernel_rfl

end Go.Proofs.YtghhkbigmmjanaaGreatDoor.VA

/-! La2 -/
namespace Go.Proofs.YtghhkbigmmjanaaGreatDoor.VA
open Go Go.RowKit
attribute [local go_sem] Nat.add_eq_left Nat.left_eq_add true_and and_true ite_true if_false Int.cast_ofNat_Int eq_self Nat.add_assoc Option.some.injEq decide_true decide_false Bool.not_true Bool.not_false List.size_toArray List.length_cons List.length_nil
set_option linter.unusedSimpArgs false
set_option maxRecDepth 100000

/-! ### functions of one byte -/
theorem call_any {P : Program} {c : Cfg} {k : Nat} {f : FuncId} {args : List AV} {v : AV} {H H' : Heap} (hi : c.imp f = false) (h : call P c k f args H = some (.ret v H')) (H2 : Heap) : calls P c f args H2 = some (.ret v H2) := by
  refine calls_iff.2 ⟨k, ?_⟩
  cases k with
  | zero => simp [call] at h
  | succ k =>
    simp only [call] at h ⊢
    cases ht : c.told f with
    | some g =>
      rw [ht] at h
      simp only at h ⊢
      cases hg : g (sanL args) with
      | none => rw [hg] at h; cases h
      | some u => rw [hg] at h; simp at h; simp [h.1]
    | none =>
      rw [ht] at h
      simp only at h ⊢
      cases hf : c.fn f with
      | none => rw [hf] at h; cases h
      | some fn =>
        rw [hf] at h
        simp only [hi] at h ⊢
        split at h
        · simp at h
          simp [h.1]
        · cases h
theorem cls_1 {n : Nat} (h : n = 9 ∨ n = 10 ∨ n = 13 ∨ n = 32) : cls n = 1 := by rcases h with rfl | rfl | rfl | rfl <;> rfl
theorem cls_2 {n : Nat} (h : n = 35) : cls n = 2 := by subst h; rfl
theorem cls_3 {n : Nat} (h : (97 ≤ n ∧ n ≤ 122) ∨ (65 ≤ n ∧ n ≤ 90)) : cls n = 3 := by
  have h1 : isBlank n = false := by simp [isBlank]; omega
  have h2 : (n == 35) = false := by simp; omega
  have h3 : isLetter n = true := by simp [isLetter]; omega
  simp [cls, h1, h2, h3]
theorem cls_4 {n : Nat} (h : 48 ≤ n ∧ n ≤ 57) : cls n = 4 := by
  have h1 : isBlank n = false := by simp [isBlank]; omega
  have h2 : (n == 35) = false := by simp; omega
  have h3 : isLetter n = false := by simp [isLetter]; omega
  have h4 : isDigit n = true := by simp [isDigit]; omega
  simp [cls, h1, h2, h3, h4]
theorem cls_5 {n : Nat} (h : ¬ (n = 9 ∨ n = 10 ∨ n = 13 ∨ n = 32)) (h2 : n ≠ 35) (h3 : ¬ ((97 ≤ n ∧ n ≤ 122) ∨ (65 ≤ n ∧ n ≤ 90))) (h4 : ¬ (48 ≤ n ∧ n ≤ 57)) : cls n = if isSign n then 5 else 0 := by
  have h1 : isBlank n = false := by simp [isBlank]; omega
  have h2 : (n == 35) = false := by simp; omega
  have h3 : isLetter n = false := by simp [isLetter]; omega
  have h4 : isDigit n = false := by simp [isDigit]; omega
  simp [cls, h1, h2, h3, h4]
theorem idx_sign {n : Nat} : (0 ≤ idxByte [123, 125, 40, 41, 44, 59, 46, 61, 43, 45, 42, 60, 38, 58] n 0) ↔ isSign n = true := by
  have key : ∀ (l : List UInt8) (i : Nat), (0 ≤ idxByte l n i) ↔ (l.map (·.toNat)).contains n = true := by
    intro l
    induction l with
    | nil => intro i; simp [idxByte]
    | cons x l ih =>
      intro i
      simp only [idxByte, List.map_cons, List.contains_cons]
      by_cases hx : x.toNat = n
      · rw [if_pos hx]
        have : (n == x.toNat) = true := by simp [hx]
        simp [this]
      · rw [if_neg hx]
        have : (n == x.toNat) = false := by simp; omega
        rw [this, Bool.false_or]
        exact ih _
  exact key _ 0
theorem c_index (l : List UInt8) (n : Nat) (hn : n < 256) (H : Heap) : calls Tryz.prog cfg 80 [.lit (.string (ba l)), .lit (.int .u8 (n : Nat))] H = some (.ret (.lit (.int .i64 (idxByte l n 0))) H) :=
  calls_told (h := tIndexByte) rfl (by simp [sanL, san, tIndexByte, hn]) H
set_option maxRecDepth 10000 in
theorem c_of (b : UInt8) (H : Heap) : calls Tryz.prog cfg 46 [.lit (.int .u8 (b.toNat : Nat))] H = some (.ret (.lit (.int .i64 (cls b.toNat : Nat))) H) := by
  refine calls_pure (fn := Tryz.f46) rfl rfl rfl rfl rfl ?_ H
  have hn : b.toNat < 256 := b.toNat_lt
  generalize b.toNat = n at hn
  by_cases h1 : ((n : Nat) : Int) = 9
  · simp only [go_sem, Nat.reduceBEq, Nat.reduceLeDiff, Nat.reduceEqDiff, Nat.reduceSub, Nat.reduceAdd, Int.reduceEq, Int.reduceLT, Int.reduceLE, Int.reduceAdd, h1]; rw [cls_1 (by omega)]; rfl
  by_cases h2 : ((n : Nat) : Int) = 10
  · simp only [go_sem, Nat.reduceBEq, Nat.reduceLeDiff, Nat.reduceEqDiff, Nat.reduceSub, Nat.reduceAdd, Int.reduceEq, Int.reduceLT, Int.reduceLE, Int.reduceAdd, h2]; rw [cls_1 (by omega)]; rfl
  by_cases h3 : ((n : Nat) : Int) = 13
  · simp only [go_sem, Nat.reduceBEq, Nat.reduceLeDiff, Nat.reduceEqDiff, Nat.reduceSub, Nat.reduceAdd, Int.reduceEq, Int.reduceLT, Int.reduceLE, Int.reduceAdd, h3]; rw [cls_1 (by omega)]; rfl
  by_cases h4 : ((n : Nat) : Int) = 32
  · simp only [go_sem, Nat.reduceBEq, Nat.reduceLeDiff, Nat.reduceEqDiff, Nat.reduceSub, Nat.reduceAdd, Int.reduceEq, Int.reduceLT, Int.reduceLE, Int.reduceAdd, h4]; rw [cls_1 (by omega)]; rfl
  by_cases h5 : ((n : Nat) : Int) = 35
  · simp only [go_sem, Nat.reduceBEq, Nat.reduceLeDiff, Nat.reduceEqDiff, Nat.reduceSub, Nat.reduceAdd, Int.reduceEq, Int.reduceLT, Int.reduceLE, Int.reduceAdd, h5]; rw [cls_2 (by omega)]; rfl
  have fin3 : ((97 ≤ n ∧ n ≤ 122) ∨ (65 ≤ n ∧ n ≤ 90)) → (some (AV.lit (.int .i64 3)) : Option AV) = some (.lit (.int .i64 (cls n : Nat))) := fun h => by rw [cls_3 h]; rfl
  have fin4 : (48 ≤ n ∧ n ≤ 57) → (some (AV.lit (.int .i64 4)) : Option AV) = some (.lit (.int .i64 (cls n : Nat))) := fun h => by rw [cls_4 h]; rfl
  have fin5 : ¬ ((97 ≤ n ∧ n ≤ 122) ∨ (65 ≤ n ∧ n ≤ 90)) → ¬ (48 ≤ n ∧ n ≤ 57) → isSign n = true → (some (AV.lit (.int .i64 5)) : Option AV) = some (.lit (.int .i64 (cls n : Nat))) := fun h h' hs => by
    rw [cls_5 (by omega) (by omega) h h', if_pos hs]; rfl
  have fin0 : ¬ ((97 ≤ n ∧ n ≤ 122) ∨ (65 ≤ n ∧ n ≤ 90)) → ¬ (48 ≤ n ∧ n ≤ 57) → ¬ isSign n = true → (some (AV.lit (.int .i64 0)) : Option AV) = some (.lit (.int .i64 (cls n : Nat))) := fun h h' hs => by
    rw [cls_5 (by omega) (by omega) h h', if_neg hs]; rfl
  by_cases h6 : (97 : Int) ≤ (n : Nat)
  · by_cases h7 : ((n : Nat) : Int) ≤ 122
    · simp only [go_sem, Nat.reduceBEq, Nat.reduceLeDiff, Nat.reduceEqDiff, Nat.reduceSub, Nat.reduceAdd, Int.reduceEq, Int.reduceLT, Int.reduceLE, Int.reduceAdd, h1, h2, h3, h4, h5, h6, h7]; exact fin3 (by omega)
    · have h8 : (65 : Int) ≤ (n : Nat) := by omega
      have h9 : ¬ ((n : Nat) : Int) ≤ 90 := by omega
      have h10 : (48 : Int) ≤ (n : Nat) := by omega
      have h11 : ¬ ((n : Nat) : Int) ≤ 57 := by omega
      by_cases hs : 0 ≤ idxByte [123, 125, 40, 41, 44, 59, 46, 61, 43, 45, 42, 60, 38, 58] n 0
      · simp only [go_sem, Nat.reduceBEq, Nat.reduceLeDiff, Nat.reduceEqDiff, Nat.reduceSub, Nat.reduceAdd, Int.reduceEq, Int.reduceLT, Int.reduceLE, Int.reduceAdd, h1, h2, h3, h4, h5, h6, h7, h8, h9, h10, h11, c_index _ _ hn, hs]; exact fin5 (by omega) (by omega) (idx_sign.1 hs)
      · simp only [go_sem, Nat.reduceBEq, Nat.reduceLeDiff, Nat.reduceEqDiff, Nat.reduceSub, Nat.reduceAdd, Int.reduceEq, Int.reduceLT, Int.reduceLE, Int.reduceAdd, h1, h2, h3, h4, h5, h6, h7, h8, h9, h10, h11, c_index _ _ hn, hs]; exact fin0 (by omega) (by omega) (fun h => hs (idx_sign.2 h))
  · by_cases h8 : (65 : Int) ≤ (n : Nat)
    · by_cases h9 : ((n : Nat) : Int) ≤ 90
      · simp only [go_sem, Nat.reduceBEq, Nat.reduceLeDiff, Nat.reduceEqDiff, Nat.reduceSub, Nat.reduceAdd, Int.reduceEq, Int.reduceLT, Int.reduceLE, Int.reduceAdd, h1, h2, h3, h4, h5, h6, h8, h9]; exact fin3 (by omega)
      · have h10 : (48 : Int) ≤ (n : Nat) := by omega
        have h11 : ¬ ((n : Nat) : Int) ≤ 57 := by omega
        by_cases hs : 0 ≤ idxByte [123, 125, 40, 41, 44, 59, 46, 61, 43, 45, 42, 60, 38, 58] n 0
        · simp only [go_sem, Nat.reduceBEq, Nat.reduceLeDiff, Nat.reduceEqDiff, Nat.reduceSub, Nat.reduceAdd, Int.reduceEq, Int.reduceLT, Int.reduceLE, Int.reduceAdd, h1, h2, h3, h4, h5, h6, h8, h9, h10, h11, c_index _ _ hn, hs]; exact fin5 (by omega) (by omega) (idx_sign.1 hs)
        · simp only [go_sem, Nat.reduceBEq, Nat.reduceLeDiff, Nat.reduceEqDiff, Nat.reduceSub, Nat.reduceAdd, Int.reduceEq, Int.reduceLT, Int.reduceLE, Int.reduceAdd, h1, h2, h3, h4, h5, h6, h8, h9, h10, h11, c_index _ _ hn, hs]; exact fin0 (by omega) (by omega) (fun h => hs (idx_sign.2 h))
    · by_cases h10 : (48 : Int) ≤ (n : Nat)
      · by_cases h11 : ((n : Nat) : Int) ≤ 57
        · simp only [go_sem, Nat.reduceBEq, Nat.reduceLeDiff, Nat.reduceEqDiff, Nat.reduceSub, Nat.reduceAdd, Int.reduceEq, Int.reduceLT, Int.reduceLE, Int.reduceAdd, h1, h2, h3, h4, h5, h6, h8, h10, h11]; exact fin4 (by omega)
        · by_cases hs : 0 ≤ idxByte [123, 125, 40, 41, 44, 59, 46, 61, 43, 45, 42, 60, 38, 58] n 0
          · simp only [go_sem, Nat.reduceBEq, Nat.reduceLeDiff, Nat.reduceEqDiff, Nat.reduceSub, Nat.reduceAdd, Int.reduceEq, Int.reduceLT, Int.reduceLE, Int.reduceAdd, h1, h2, h3, h4, h5, h6, h8, h10, h11, c_index _ _ hn, hs]; exact fin5 (by omega) (by omega) (idx_sign.1 hs)
          · simp only [go_sem, Nat.reduceBEq, Nat.reduceLeDiff, Nat.reduceEqDiff, Nat.reduceSub, Nat.reduceAdd, Int.reduceEq, Int.reduceLT, Int.reduceLE, Int.reduceAdd, h1, h2, h3, h4, h5, h6, h8, h10, h11, c_index _ _ hn, hs]; exact fin0 (by omega) (by omega) (fun h => hs (idx_sign.2 h))
      · by_cases hs : 0 ≤ idxByte [123, 125, 40, 41, 44, 59, 46, 61, 43, 45, 42, 60, 38, 58] n 0
        · simp only [go_sem, Nat.reduceBEq, Nat.reduceLeDiff, Nat.reduceEqDiff, Nat.reduceSub, Nat.reduceAdd, Int.reduceEq, Int.reduceLT, Int.reduceLE, Int.reduceAdd, h1, h2, h3, h4, h5, h6, h8, h10, c_index _ _ hn, hs]; exact fin5 (by omega) (by omega) (idx_sign.1 hs)
        · simp only [go_sem, Nat.reduceBEq, Nat.reduceLeDiff, Nat.reduceEqDiff, Nat.reduceSub, Nat.reduceAdd, Int.reduceEq, Int.reduceLT, Int.reduceLE, Int.reduceAdd, h1, h2, h3, h4, h5, h6, h8, h10, c_index _ _ hn, hs]; exact fin0 (by omega) (by omega) (fun h => hs (idx_sign.2 h))
/-! ### what the classes tell -/
theorem cls3_iff (n : Nat) : cls n = 3 ↔ isLetter n = true := by
  constructor
  · intro h
    unfold cls at h
    repeat' split at h
    all_goals first | omega | assumption
  · intro h; exact cls_3 (by simp [isLetter] at h; omega)
theorem cls4_iff (n : Nat) : cls n = 4 ↔ isDigit n = true := by
  constructor
  · intro h
    unfold cls at h
    repeat' split at h
    all_goals first | omega | assumption
  · intro h; exact cls_4 (by simp [isDigit] at h; omega)
theorem c_inner (b : UInt8) (H : Heap) : calls Tryz.prog cfg 49 [.lit (.int .u8 (b.toNat : Nat))] H = some (.ret (.lit (.bool (inWord b.toNat))) H) := by
  refine calls_pure (fn := Tryz.f49) rfl rfl rfl rfl rfl ?_ H
  by_cases h1 : ((cls b.toNat : Nat) : Int) = 3
  · have hw : inWord b.toNat = true := by have := (cls3_iff b.toNat).1 (by omega); simp [inWord, this]
    simp only [go_sem, Nat.reduceBEq, Nat.reduceLeDiff, Nat.reduceEqDiff, Nat.reduceSub, Nat.reduceAdd, Int.reduceEq, Int.reduceLT, Int.reduceLE, Int.reduceAdd, c_of, h1, hw] <;> rfl
  · have hl : isLetter b.toNat = false := by have := cls3_iff b.toNat; cases h : isLetter b.toNat with
      | false => rfl
      | true => exact absurd (this.2 h) (by omega)
    by_cases h2 : ((cls b.toNat : Nat) : Int) = 4
    · have hw : inWord b.toNat = true := by have := (cls4_iff b.toNat).1 (by omega); simp [inWord, this]
      simp only [go_sem, Nat.reduceBEq, Nat.reduceLeDiff, Nat.reduceEqDiff, Nat.reduceSub, Nat.reduceAdd, Int.reduceEq, Int.reduceLT, Int.reduceLE, Int.reduceAdd, c_of, h2, hw] <;> rfl
    · have hd : isDigit b.toNat = false := by have := cls4_iff b.toNat; cases h : isDigit b.toNat with
        | false => rfl
        | true => exact absurd (this.2 h) (by omega)
      by_cases h3 : ((b.toNat : Nat) : Int) = 95
      · have hw : inWord b.toNat = true := by have : b.toNat = 95 := by omega
                                              simp [inWord, this]
        have d3 : decide (((b.toNat : Nat) : Int) = 95) = true := by simp [h3]
        simp only [go_sem, Nat.reduceBEq, Nat.reduceLeDiff, Nat.reduceEqDiff, Nat.reduceSub, Nat.reduceAdd, Int.reduceEq, Int.reduceLT, Int.reduceLE, Int.reduceAdd, c_of, h1, h2, d3, hw] <;> rfl
      · have hw : inWord b.toNat = false := by have : (b.toNat == 95) = false := by simp; omega
                                               simp [inWord, hl, hd, this]
        simp only [go_sem, Nat.reduceBEq, Nat.reduceLeDiff, Nat.reduceEqDiff, Nat.reduceSub, Nat.reduceAdd, Int.reduceEq, Int.reduceLT, Int.reduceLE, Int.reduceAdd, c_of, h1, h2, h3, hw] <;> rfl
theorem c_lex1 (b : UInt8) (H : Heap) : calls Tryz.prog cfg 48 [.lit (.int .u8 (b.toNat : Nat))] H = some (.ret (.lit (.bool (notNl b.toNat))) H) := by
  refine calls_pure (fn := Tryz.f48) rfl rfl rfl rfl rfl ?_ H
  have h : notNl b.toNat = !decide (((b.toNat : Nat) : Int) = 10) := by
    by_cases h : b.toNat = 10
    · simp [notNl, h]
    · have : ¬ ((b.toNat : Nat) : Int) = 10 := by omega
      simp [notNl, h, this]
  simp only [go_sem, Nat.reduceBEq, Nat.reduceLeDiff, Nat.reduceEqDiff, Nat.reduceSub, Nat.reduceAdd, Int.reduceEq, Int.reduceLT, Int.reduceLE, Int.reduceAdd, h] <;> rfl
theorem c_lex2 (b : UInt8) (H : Heap) : calls Tryz.prog cfg 50 [.lit (.int .u8 (b.toNat : Nat))] H = some (.ret (.lit (.bool (isDigit b.toNat))) H) := by
  refine calls_pure (fn := Tryz.f50) rfl rfl rfl rfl rfl ?_ H
  have h : isDigit b.toNat = decide (((cls b.toNat : Nat) : Int) = 4) := by
    have h0 := cls4_iff b.toNat
    cases h : isDigit b.toNat with
    | true => have := h0.2 h; simp [this]
    | false =>
      have : ¬ ((cls b.toNat : Nat) : Int) = 4 := fun h1 => by rw [h0.1 (by omega)] at h; cases h
      simp [this]
  simp only [go_sem, Nat.reduceBEq, Nat.reduceLeDiff, Nat.reduceEqDiff, Nat.reduceSub, Nat.reduceAdd, Int.reduceEq, Int.reduceLT, Int.reduceLE, Int.reduceAdd, c_of, h] <;> rfl
end Go.Proofs.YtghhkbigmmjanaaGreatDoor.VA

/-! La3 -/
namespace Go.Proofs.YtghhkbigmmjanaaGreatDoor.VA
open Go Go.RowKit
attribute [local go_sem] Nat.add_eq_left Nat.left_eq_add true_and and_true ite_true if_false Int.cast_ofNat_Int eq_self Nat.add_assoc Option.some.injEq decide_true decide_false Bool.not_true Bool.not_false List.size_toArray List.length_cons List.length_nil
set_option linter.unusedSimpArgs false
set_option maxRecDepth 100000

theorem c_end (l : List UInt8) (hs : l.length ≤ 9223372036854775806) (f : FuncId) (p : Nat → Bool)
    (hf : ∀ (b : UInt8) H, calls Tryz.prog cfg f [.lit (.int .u8 (b.toNat : Nat))] H = some (.ret (.lit (.bool (p b.toNat))) H)) (at_ : Nat) (ha : at_ ≤ l.length) (H : Heap) :
    calls Tryz.prog cfg 47 [.lit (.string (ba l)), .lit (.int .i64 (at_ : Nat)), .fn f []] H = some (.ret (.lit (.int .i64 (at_ + span p (l.drop at_) : Nat))) H) := by
  refine calls_pure (fn := Tryz.f47) rfl rfl rfl rfl rfl ?_ H
  generalize hr : at_ + span p (l.drop at_) = r
  have rs : Tryz.f47.results.toList = [.tmp 6] := rfl
  simp only [go_sem, Nat.reduceBEq, Nat.reduceLeDiff, Nat.reduceEqDiff, Nat.reduceSub, Nat.reduceAdd, Int.reduceEq, Int.reduceLT, Int.reduceLE, Int.reduceAdd, rs]
  refine W_loop_ind (fun n e H => ∃ a : Nat, n = l.length - a ∧ a ≤ l.length ∧ a + span p (l.drop a) = r ∧ gget .bad e 0 = .lit (.string (ba l)) ∧ gget .bad e 1 = .lit (.int .i64 (a : Nat)) ∧ gget .bad e 2 = .fn f [])
    (l.length - at_) ⟨at_, rfl, ha, hr, by simp only [go_sem, Nat.reduceBEq, Nat.reduceLeDiff, Nat.reduceEqDiff, Nat.reduceSub, Nat.reduceAdd, Int.reduceEq, Int.reduceLT, Int.reduceLE, Int.reduceAdd], by simp only [go_sem, Nat.reduceBEq, Nat.reduceLeDiff, Nat.reduceEqDiff, Nat.reduceSub, Nat.reduceAdd, Int.reduceEq, Int.reduceLT, Int.reduceLE, Int.reduceAdd], by simp only [go_sem, Nat.reduceBEq, Nat.reduceLeDiff, Nat.reduceEqDiff, Nat.reduceSub, Nat.reduceAdd, Int.reduceEq, Int.reduceLT, Int.reduceLE, Int.reduceAdd]⟩ ?_
  rintro n ih e H ⟨a, rfl, hle, hr, h0, h1, h2⟩
  by_cases hlt : a < l.length
  · have hlt' : (a : Int) < (l.length : Nat) := by omega
    rw [drop_cons hlt, span_cons] at hr
    cases hp : p (l.getD a 0).toNat with
    | true =>
      rw [if_pos hp] at hr
      simp only [go_sem, Nat.reduceBEq, Nat.reduceLeDiff, Nat.reduceEqDiff, Nat.reduceSub, Nat.reduceAdd, Int.reduceEq, Int.reduceLT, Int.reduceLE, Int.reduceAdd, h0, h1, h2, ba_size, hlt', ixs_ba hlt, hf, hp, wrap1 (show a + 1 ≤ 9223372036854775807 by omega)]
      exact ih (l.length - (a + 1)) (by omega) _ _ ⟨a + 1, rfl, by omega, by omega, by simp only [go_sem, Nat.reduceBEq, Nat.reduceLeDiff, Nat.reduceEqDiff, Nat.reduceSub, Nat.reduceAdd, Int.reduceEq, Int.reduceLT, Int.reduceLE, Int.reduceAdd, h0], by simp only [go_sem, Nat.reduceBEq, Nat.reduceLeDiff, Nat.reduceEqDiff, Nat.reduceSub, Nat.reduceAdd, Int.reduceEq, Int.reduceLT, Int.reduceLE, Int.reduceAdd], by simp only [go_sem, Nat.reduceBEq, Nat.reduceLeDiff, Nat.reduceEqDiff, Nat.reduceSub, Nat.reduceAdd, Int.reduceEq, Int.reduceLT, Int.reduceLE, Int.reduceAdd, h2]⟩
    | false =>
      rw [hp] at hr
      simp only [go_sem, Nat.reduceBEq, Nat.reduceLeDiff, Nat.reduceEqDiff, Nat.reduceSub, Nat.reduceAdd, Int.reduceEq, Int.reduceLT, Int.reduceLE, Int.reduceAdd, h0, h1, h2, ba_size, hlt', ixs_ba hlt, hf, hp]
      have : a = r := by simpa using hr
      subst this
      simp only [go_sem, Nat.reduceBEq, Nat.reduceLeDiff, Nat.reduceEqDiff, Nat.reduceSub, Nat.reduceAdd, Int.reduceEq, Int.reduceLT, Int.reduceLE, Int.reduceAdd]
  · have hlt' : ¬ (a : Int) < (l.length : Nat) := by omega
    have : a = r := by
      rw [List.drop_of_length_le (by omega), span_nil] at hr; omega
    subst this
    simp only [go_sem, Nat.reduceBEq, Nat.reduceLeDiff, Nat.reduceEqDiff, Nat.reduceSub, Nat.reduceAdd, Int.reduceEq, Int.reduceLT, Int.reduceLE, Int.reduceAdd, h0, h1, h2, ba_size, hlt']
theorem c_number (l : List UInt8) (hs : l.length ≤ 9223372036854775806) (at_ k : Nat) (ha : at_ + k ≤ l.length) (H : Heap) :
    calls Tryz.prog cfg 51 [.lit (.string (ba l)), .lit (.int .i64 (at_ : Nat)), .lit (.int .i64 (at_ + k : Nat))] H =
      some (.ret (.lit (.bool (decide (k ≤ 9) && endsNum (l.drop (at_ + k))))) H) := by
  refine calls_pure (fn := Tryz.f51) rfl rfl rfl rfl rfl ?_ H
  have hw : IntKind.wrap .i64 (((at_ + k : Nat) : Int) - (at_ : Nat)) = (k : Nat) := by rw [wrap64 (by omega) (by omega)]; omega
  by_cases h1 : k ≤ 9
  · have d1 : decide (((k : Nat) : Int) ≤ 9) = true := by simp; omega
    by_cases h2 : at_ + k = l.length
    · have d2 : decide (((at_ + k : Nat) : Int) = (l.length : Nat)) = true := by simp; omega
      rw [List.drop_of_length_le (by omega)]
      simp only [go_sem, Nat.reduceBEq, Nat.reduceLeDiff, Nat.reduceEqDiff, Nat.reduceSub, Nat.reduceAdd, Int.reduceEq, Int.reduceLT, Int.reduceLE, Int.reduceAdd, hw, d1, ba_size, d2, endsNum, h1, Bool.and_true]
      rfl
    · have d2 : decide (((at_ + k : Nat) : Int) = (l.length : Nat)) = false := by simp; omega
      have hlt : at_ + k < l.length := by omega
      rw [drop_cons hlt]
      simp only [go_sem, Nat.reduceBEq, Nat.reduceLeDiff, Nat.reduceEqDiff, Nat.reduceSub, Nat.reduceAdd, Int.reduceEq, Int.reduceLT, Int.reduceLE, Int.reduceAdd, hw, d1, ba_size, d2, ixs_ba hlt, c_inner, endsNum, h1, Bool.true_and]
      rfl
  · have d1 : decide (((k : Nat) : Int) ≤ 9) = false := by simp; omega
    simp only [go_sem, Nat.reduceBEq, Nat.reduceLeDiff, Nat.reduceEqDiff, Nat.reduceSub, Nat.reduceAdd, Int.reduceEq, Int.reduceLT, Int.reduceLE, Int.reduceAdd, hw, d1, h1, Bool.false_and]
    rfl
end Go.Proofs.YtghhkbigmmjanaaGreatDoor.VA

/-! La4 -/
namespace Go.Proofs.YtghhkbigmmjanaaGreatDoor.VA
open Go Go.RowKit
attribute [local go_sem] Nat.add_eq_left Nat.left_eq_add true_and and_true ite_true if_false Int.cast_ofNat_Int eq_self Nat.add_assoc Option.some.injEq decide_true decide_false Bool.not_true Bool.not_false List.size_toArray List.length_cons List.length_nil
set_option linter.unusedSimpArgs false
set_option maxRecDepth 100000

/-- A lexer's answer, as the program hands it back. -/
def encLexR : LexR → AV
  | .ok ts => encLex (ts, 0, 0)
  | .err a => encLex ([], 10, a)
theorem bs1_tok (k a : Int) (t : ByteArray) : aBuildSlice Tryz.prog 45 1 [(0, .agg [.lit (.int .i64 k), .lit (.string t), .lit (.int .i64 a)])] = some (.sl .ex [[.lit (.int .i64 k), .lit (.string t), .lit (.int .i64 a)]]) :=
  build1 el_tok (by decide) zr_tok rfl rfl (.agg [.lit (.int .i64 k), .lit (.string t), .lit (.int .i64 a)]) rfl rfl
set_option maxRecDepth 20000 in
theorem c_lex (l : List UInt8) (H : Heap) : calls Tryz.prog cfg 26 [.lit (.string (ba l))] H = some (.ret (encLex (lexAns l)) H) := by
  refine calls_pure (fn := Tryz.f26) rfl rfl rfl rfl rfl ?_ H
  have rs : Tryz.f26.results.toList = [.tmp 2, .cell 3 27] := rfl
  by_cases hbig : 65536 < l.length
  · have d : decide ((65536 : Int) < (l.length : Nat)) = true := by simp; omega
    simp only [go_sem, Nat.reduceBEq, Nat.reduceLeDiff, Nat.reduceEqDiff, Nat.reduceSub, Nat.reduceAdd, Int.reduceEq, Int.reduceLT, Int.reduceLE, Int.reduceAdd, rs, ba_size, d]
    simp only [lexAns, if_pos hbig, encLex, encFault]
    rfl
  · have d : decide ((65536 : Int) < (l.length : Nat)) = false := by simp; omega
    have hans : encLex (lexAns l) = encLexR (lexL l 0) := by
      simp only [lexAns, if_neg hbig]
      cases lexL l 0 <;> rfl
    rw [hans]
    generalize hR : lexL l 0 = R
    simp only [go_sem, Nat.reduceBEq, Nat.reduceLeDiff, Nat.reduceEqDiff, Nat.reduceSub, Nat.reduceAdd, Int.reduceEq, Int.reduceLT, Int.reduceLE, Int.reduceAdd, rs, ba_size, d]
    refine W_loop_ind (fun n e H => ∃ (a : Nat) (acc : List Tok) (o : Own), n = l.length - a ∧ a ≤ l.length ∧ acc.length ≤ a ∧ LexR.pre acc (lexL (l.drop a) a) = R ∧ gget .bad e 0 = .lit (.string (ba l)) ∧ gget .bad e 3 = .ptr 1 0 ∧
        gget .bad e 4 = .sl o (acc.map encTok) ∧ gget .bad e 5 = .lit (.int .i64 (a : Nat)) ∧ H.get 1 = some [.lit (.int .i64 0), .lit (.int .i64 0)] ∧ 2 ≤ H.next ∧ OwnOk H o 66 3)
      l.length ⟨0, [], .nil, rfl, by omega, by simp, by simpa [LexR.pre_nil] using hR, by simp only [go_sem, Nat.reduceBEq, Nat.reduceLeDiff, Nat.reduceEqDiff, Nat.reduceSub, Nat.reduceAdd, Int.reduceEq, Int.reduceLT, Int.reduceLE, Int.reduceAdd], by simp only [go_sem, Nat.reduceBEq, Nat.reduceLeDiff, Nat.reduceEqDiff, Nat.reduceSub, Nat.reduceAdd, Int.reduceEq, Int.reduceLT, Int.reduceLE, Int.reduceAdd], by simp only [go_sem, Nat.reduceBEq, Nat.reduceLeDiff, Nat.reduceEqDiff, Nat.reduceSub, Nat.reduceAdd, Int.reduceEq, Int.reduceLT, Int.reduceLE, Int.reduceAdd], by simp only [go_sem, Nat.reduceBEq, Nat.reduceLeDiff, Nat.reduceEqDiff, Nat.reduceSub, Nat.reduceAdd, Int.reduceEq, Int.reduceLT, Int.reduceLE, Int.reduceAdd] <;> rfl, by simp only [go_sem, Nat.reduceBEq, Nat.reduceLeDiff, Nat.reduceEqDiff, Nat.reduceSub, Nat.reduceAdd, Int.reduceEq, Int.reduceLT, Int.reduceLE, Int.reduceAdd], by simp only [go_sem, Nat.reduceBEq, Nat.reduceLeDiff, Nat.reduceEqDiff, Nat.reduceSub, Nat.reduceAdd, Int.reduceEq, Int.reduceLT, Int.reduceLE, Int.reduceAdd], by simp only [go_sem, Nat.reduceBEq, Nat.reduceLeDiff, Nat.reduceEqDiff, Nat.reduceSub, Nat.reduceAdd, Int.reduceEq, Int.reduceLT, Int.reduceLE, Int.reduceAdd]⟩ ?_
    rintro n ih e H ⟨a, acc, o, rfl, hle, hacc, hR, h0, h3, h4, h5, hg, hnx, ho⟩
    obtain ⟨m, hm⟩ : ∃ m, H.next = m + 2 := ⟨H.next - 2, by omega⟩
    by_cases hlt : a < l.length
    · have hlt' : decide ((a : Int) < (l.length : Nat)) = true := by simp; omega
      have dc := drop_cons hlt
      generalize hb : l.getD a 0 = b at dc
      have hix := ixs_ba hlt
      rw [hb] at hix
      have hw1 := wrap1 (show a + 1 ≤ 9223372036854775807 by omega)
      have hsl : ∀ k, a + k ≤ l.length → aSlice Tryz.prog 9 (.lit (.string (ba l))) (some (.lit (.int .i64 (a : Nat)))) (some (.lit (.int .i64 (a + k : Nat)))) = some (.lit (.string (ba ((l.drop a).take k)))) := by
        intro k hk
        rw [slice_str und_string (h := a + k) (l := a) (by simp only [optNat, aNat_cast]) (by simp only [optNat, aNat_cast]) (by omega) (by simpa using hk), ba_extract]
        congr 5; omega
      have hap : ∀ (v0 v1 v2 : AV) (H' : Heap) (id : Nat), OwnOk H' o 66 3 → aAppend Tryz.prog 45 (.sl o (acc.map encTok)) (.sl .ex [[v0, v1, v2]]) H' id =
          some (.sl (.own id 66 3) (acc.map encTok ++ sanLL [[v0, v1, v2]]), ownUs o id, ownRs o) := fun v0 v1 v2 H' id hh =>
        append_eq el_tok zo_tok (by omega) (by simp; omega) (by simp; omega) rfl H' id hh
      have hend : ∀ (f : FuncId) (p : Nat → Bool) (hf : ∀ (b : UInt8) H, calls Tryz.prog cfg f [.lit (.int .u8 (b.toNat : Nat))] H = some (.ret (.lit (.bool (p b.toNat))) H)) (H : Heap),
          calls Tryz.prog cfg 47 [.lit (.string (ba l)), .lit (.int .i64 (a : Nat)), .fn f []] H = some (.ret (.lit (.int .i64 (a + span p (l.drop a) : Nat))) H) := fun f p hf H => c_end l (by omega) f p hf a hle H
      have hspan : ∀ p, a + span p (l.drop a) ≤ l.length := fun p => by have := span_le p (l.drop a); simp at this; omega
      have c0 := cls_lt b.toNat
      by_cases c1 : cls b.toNat = 1
      · have hl := lexL_blank (l := l.drop (a + 1)) (at_ := a) c1
        rw [← dc] at hl
        rw [hl] at hR
        simp only [go_sem, Nat.reduceBEq, Nat.reduceLeDiff, Nat.reduceEqDiff, Nat.reduceSub, Nat.reduceAdd, Int.reduceEq, Int.reduceLT, Int.reduceLE, Int.reduceAdd, h0, h3, h4, h5, hg, hm, ba_size, hlt', hix, c_of, c1, hw1]
        exact ih (l.length - (a + 1)) (by omega) _ _ ⟨a + 1, acc, o, rfl, by omega, by omega, hR, by simp only [go_sem, Nat.reduceBEq, Nat.reduceLeDiff, Nat.reduceEqDiff, Nat.reduceSub, Nat.reduceAdd, Int.reduceEq, Int.reduceLT, Int.reduceLE, Int.reduceAdd, h0], by simp only [go_sem, Nat.reduceBEq, Nat.reduceLeDiff, Nat.reduceEqDiff, Nat.reduceSub, Nat.reduceAdd, Int.reduceEq, Int.reduceLT, Int.reduceLE, Int.reduceAdd, h3], by simp only [go_sem, Nat.reduceBEq, Nat.reduceLeDiff, Nat.reduceEqDiff, Nat.reduceSub, Nat.reduceAdd, Int.reduceEq, Int.reduceLT, Int.reduceLE, Int.reduceAdd, h4], by simp only [go_sem, Nat.reduceBEq, Nat.reduceLeDiff, Nat.reduceEqDiff, Nat.reduceSub, Nat.reduceAdd, Int.reduceEq, Int.reduceLT, Int.reduceLE, Int.reduceAdd], by simp only [go_sem, Nat.reduceBEq, Nat.reduceLeDiff, Nat.reduceEqDiff, Nat.reduceSub, Nat.reduceAdd, Int.reduceEq, Int.reduceLT, Int.reduceLE, Int.reduceAdd, hg], by simp only [go_sem, Nat.reduceBEq, Nat.reduceLeDiff, Nat.reduceEqDiff, Nat.reduceSub, Nat.reduceAdd, Int.reduceEq, Int.reduceLT, Int.reduceLE, Int.reduceAdd, hm], by simp only [go_sem, Nat.reduceBEq, Nat.reduceLeDiff, Nat.reduceEqDiff, Nat.reduceSub, Nat.reduceAdd, Int.reduceEq, Int.reduceLT, Int.reduceLE, Int.reduceAdd, ho]⟩
      by_cases c2 : cls b.toNat = 2
      · have hl := lexL_remark (l := l.drop (a + 1)) (at_ := a) c2
        rw [← dc] at hl
        rw [hl, List.drop_drop] at hR
        have hp : 0 < span notNl (l.drop a) := by rw [dc, span_pos (cls2 c2)]; omega
        have := hspan notNl
        simp only [go_sem, Nat.reduceBEq, Nat.reduceLeDiff, Nat.reduceEqDiff, Nat.reduceSub, Nat.reduceAdd, Int.reduceEq, Int.reduceLT, Int.reduceLE, Int.reduceAdd, h0, h3, h4, h5, hg, hm, ba_size, hlt', hix, c_of, c2, hw1, hend _ _ c_lex1]
        exact ih (l.length - (a + span notNl (l.drop a))) (by omega) _ _ ⟨a + span notNl (l.drop a), acc, o, rfl, by omega, by omega, hR, by simp only [go_sem, Nat.reduceBEq, Nat.reduceLeDiff, Nat.reduceEqDiff, Nat.reduceSub, Nat.reduceAdd, Int.reduceEq, Int.reduceLT, Int.reduceLE, Int.reduceAdd, h0], by simp only [go_sem, Nat.reduceBEq, Nat.reduceLeDiff, Nat.reduceEqDiff, Nat.reduceSub, Nat.reduceAdd, Int.reduceEq, Int.reduceLT, Int.reduceLE, Int.reduceAdd, h3], by simp only [go_sem, Nat.reduceBEq, Nat.reduceLeDiff, Nat.reduceEqDiff, Nat.reduceSub, Nat.reduceAdd, Int.reduceEq, Int.reduceLT, Int.reduceLE, Int.reduceAdd, h4], by simp only [go_sem, Nat.reduceBEq, Nat.reduceLeDiff, Nat.reduceEqDiff, Nat.reduceSub, Nat.reduceAdd, Int.reduceEq, Int.reduceLT, Int.reduceLE, Int.reduceAdd], by simp only [go_sem, Nat.reduceBEq, Nat.reduceLeDiff, Nat.reduceEqDiff, Nat.reduceSub, Nat.reduceAdd, Int.reduceEq, Int.reduceLT, Int.reduceLE, Int.reduceAdd, hg], by simp only [go_sem, Nat.reduceBEq, Nat.reduceLeDiff, Nat.reduceEqDiff, Nat.reduceSub, Nat.reduceAdd, Int.reduceEq, Int.reduceLT, Int.reduceLE, Int.reduceAdd, hm], by simp only [go_sem, Nat.reduceBEq, Nat.reduceLeDiff, Nat.reduceEqDiff, Nat.reduceSub, Nat.reduceAdd, Int.reduceEq, Int.reduceLT, Int.reduceLE, Int.reduceAdd, ho]⟩
      by_cases c3 : cls b.toNat = 3
      · have hl := lexL_word (l := l.drop (a + 1)) (at_ := a) c3
        rw [← dc] at hl
        rw [hl, List.drop_drop, LexR.pre_pre] at hR
        have hp : 0 < span inWord (l.drop a) := by rw [dc, span_pos (cls3 c3)]; omega
        have := hspan inWord
        simp only [go_sem, Nat.reduceBEq, Nat.reduceLeDiff, Nat.reduceEqDiff, Nat.reduceSub, Nat.reduceAdd, Int.reduceEq, Int.reduceLT, Int.reduceLE, Int.reduceAdd, h0, h3, h4, h5, hg, hm, ba_size, hlt', hix, c_of, c3, hw1, hend _ _ c_inner, hsl _ (hspan inWord), bs1_tok, hap, ho]
        exact ih (l.length - (a + span inWord (l.drop a))) (by omega) _ _ ⟨a + span inWord (l.drop a), acc ++ [⟨0, (l.drop a).take (span inWord (l.drop a)), a⟩], _, rfl, by omega, by simp; omega, hR, by simp only [go_sem, Nat.reduceBEq, Nat.reduceLeDiff, Nat.reduceEqDiff, Nat.reduceSub, Nat.reduceAdd, Int.reduceEq, Int.reduceLT, Int.reduceLE, Int.reduceAdd, h0], by simp only [go_sem, Nat.reduceBEq, Nat.reduceLeDiff, Nat.reduceEqDiff, Nat.reduceSub, Nat.reduceAdd, Int.reduceEq, Int.reduceLT, Int.reduceLE, Int.reduceAdd, h3],
          by simp only [go_sem, Nat.reduceBEq, Nat.reduceLeDiff, Nat.reduceEqDiff, Nat.reduceSub, Nat.reduceAdd, Int.reduceEq, Int.reduceLT, Int.reduceLE, Int.reduceAdd, List.map_append, encTok] <;> rfl, by simp only [go_sem, Nat.reduceBEq, Nat.reduceLeDiff, Nat.reduceEqDiff, Nat.reduceSub, Nat.reduceAdd, Int.reduceEq, Int.reduceLT, Int.reduceLE, Int.reduceAdd], by simp only [go_sem, Nat.reduceBEq, Nat.reduceLeDiff, Nat.reduceEqDiff, Nat.reduceSub, Nat.reduceAdd, Int.reduceEq, Int.reduceLT, Int.reduceLE, Int.reduceAdd, hg], by simp only [go_sem, Nat.reduceBEq, Nat.reduceLeDiff, Nat.reduceEqDiff, Nat.reduceSub, Nat.reduceAdd, Int.reduceEq, Int.reduceLT, Int.reduceLE, Int.reduceAdd, hm], by simp only [go_sem, Nat.reduceBEq, Nat.reduceLeDiff, Nat.reduceEqDiff, Nat.reduceSub, Nat.reduceAdd, Int.reduceEq, Int.reduceLT, Int.reduceLE, Int.reduceAdd]⟩
      by_cases c4 : cls b.toNat = 4
      · have hp : 0 < span isDigit (l.drop a) := by rw [dc, span_pos (cls4 c4)]; omega
        have := hspan isDigit
        have hnum := c_number l (by omega) a (span isDigit (l.drop a)) (hspan isDigit)
        by_cases hn : span isDigit (l.drop a) ≤ 9 ∧ endsNum ((l.drop a).drop (span isDigit (l.drop a))) = true
        · have hl := lexL_num (l := l.drop (a + 1)) (at_ := a) c4 (by rw [← dc]; exact hn.1) (by rw [← dc]; exact hn.2)
          rw [← dc] at hl
          rw [hl, List.drop_drop, LexR.pre_pre] at hR
          have hb2 : (decide (span isDigit (l.drop a) ≤ 9) && endsNum (l.drop (a + span isDigit (l.drop a)))) = true := by
            rw [List.drop_drop] at hn; simp [hn.1, hn.2]
          simp only [go_sem, Nat.reduceBEq, Nat.reduceLeDiff, Nat.reduceEqDiff, Nat.reduceSub, Nat.reduceAdd, Int.reduceEq, Int.reduceLT, Int.reduceLE, Int.reduceAdd, h0, h3, h4, h5, hg, hm, ba_size, hlt', hix, c_of, c4, hw1, hend _ _ c_lex2, hnum, hb2, hsl _ (hspan isDigit), bs1_tok, hap, ho]
          exact ih (l.length - (a + span isDigit (l.drop a))) (by omega) _ _ ⟨a + span isDigit (l.drop a), acc ++ [⟨1, (l.drop a).take (span isDigit (l.drop a)), a⟩], _, rfl, by omega, by simp; omega, hR, by simp only [go_sem, Nat.reduceBEq, Nat.reduceLeDiff, Nat.reduceEqDiff, Nat.reduceSub, Nat.reduceAdd, Int.reduceEq, Int.reduceLT, Int.reduceLE, Int.reduceAdd, h0], by simp only [go_sem, Nat.reduceBEq, Nat.reduceLeDiff, Nat.reduceEqDiff, Nat.reduceSub, Nat.reduceAdd, Int.reduceEq, Int.reduceLT, Int.reduceLE, Int.reduceAdd, h3],
            by simp only [go_sem, Nat.reduceBEq, Nat.reduceLeDiff, Nat.reduceEqDiff, Nat.reduceSub, Nat.reduceAdd, Int.reduceEq, Int.reduceLT, Int.reduceLE, Int.reduceAdd, List.map_append, encTok] <;> rfl, by simp only [go_sem, Nat.reduceBEq, Nat.reduceLeDiff, Nat.reduceEqDiff, Nat.reduceSub, Nat.reduceAdd, Int.reduceEq, Int.reduceLT, Int.reduceLE, Int.reduceAdd], by simp only [go_sem, Nat.reduceBEq, Nat.reduceLeDiff, Nat.reduceEqDiff, Nat.reduceSub, Nat.reduceAdd, Int.reduceEq, Int.reduceLT, Int.reduceLE, Int.reduceAdd, hg], by simp only [go_sem, Nat.reduceBEq, Nat.reduceLeDiff, Nat.reduceEqDiff, Nat.reduceSub, Nat.reduceAdd, Int.reduceEq, Int.reduceLT, Int.reduceLE, Int.reduceAdd, hm], by simp only [go_sem, Nat.reduceBEq, Nat.reduceLeDiff, Nat.reduceEqDiff, Nat.reduceSub, Nat.reduceAdd, Int.reduceEq, Int.reduceLT, Int.reduceLE, Int.reduceAdd]⟩
        · have hl := lexL_notnum (l := l.drop (a + 1)) (at_ := a) c4 (by rw [← dc]; exact hn)
          rw [← dc] at hl
          rw [hl] at hR
          have hb2 : (decide (span isDigit (l.drop a) ≤ 9) && endsNum (l.drop (a + span isDigit (l.drop a)))) = false := by
            rw [List.drop_drop] at hn
            rw [Bool.eq_false_iff]; intro hh; simp at hh; exact hn hh
          simp only [go_sem, Nat.reduceBEq, Nat.reduceLeDiff, Nat.reduceEqDiff, Nat.reduceSub, Nat.reduceAdd, Int.reduceEq, Int.reduceLT, Int.reduceLE, Int.reduceAdd, h0, h3, h4, h5, hg, hm, ba_size, hlt', hix, c_of, c4, hw1, hend _ _ c_lex2, hnum, hb2]
          rw [← hR]; rfl
      by_cases c5 : cls b.toNat = 5
      · have hl := lexL_sign (l := l.drop (a + 1)) (at_ := a) c5
        rw [← dc] at hl
        rw [hl, LexR.pre_pre] at hR
        have ht : (l.drop a).take 1 = [b] := by rw [dc]; rfl
        have hsl1 := hsl 1 (by omega)
        rw [ht] at hsl1
        simp only [go_sem, Nat.reduceBEq, Nat.reduceLeDiff, Nat.reduceEqDiff, Nat.reduceSub, Nat.reduceAdd, Int.reduceEq, Int.reduceLT, Int.reduceLE, Int.reduceAdd, h0, h3, h4, h5, hg, hm, ba_size, hlt', hix, c_of, c5, hw1, hsl1, bs1_tok, hap, ho]
        exact ih (l.length - (a + 1)) (by omega) _ _ ⟨a + 1, acc ++ [⟨2, [b], a⟩], _, rfl, by omega, by simp; omega, hR, by simp only [go_sem, Nat.reduceBEq, Nat.reduceLeDiff, Nat.reduceEqDiff, Nat.reduceSub, Nat.reduceAdd, Int.reduceEq, Int.reduceLT, Int.reduceLE, Int.reduceAdd, h0], by simp only [go_sem, Nat.reduceBEq, Nat.reduceLeDiff, Nat.reduceEqDiff, Nat.reduceSub, Nat.reduceAdd, Int.reduceEq, Int.reduceLT, Int.reduceLE, Int.reduceAdd, h3],
          by simp only [go_sem, Nat.reduceBEq, Nat.reduceLeDiff, Nat.reduceEqDiff, Nat.reduceSub, Nat.reduceAdd, Int.reduceEq, Int.reduceLT, Int.reduceLE, Int.reduceAdd, List.map_append, encTok] <;> rfl, by simp only [go_sem, Nat.reduceBEq, Nat.reduceLeDiff, Nat.reduceEqDiff, Nat.reduceSub, Nat.reduceAdd, Int.reduceEq, Int.reduceLT, Int.reduceLE, Int.reduceAdd], by simp only [go_sem, Nat.reduceBEq, Nat.reduceLeDiff, Nat.reduceEqDiff, Nat.reduceSub, Nat.reduceAdd, Int.reduceEq, Int.reduceLT, Int.reduceLE, Int.reduceAdd, hg], by simp only [go_sem, Nat.reduceBEq, Nat.reduceLeDiff, Nat.reduceEqDiff, Nat.reduceSub, Nat.reduceAdd, Int.reduceEq, Int.reduceLT, Int.reduceLE, Int.reduceAdd, hm], by simp only [go_sem, Nat.reduceBEq, Nat.reduceLeDiff, Nat.reduceEqDiff, Nat.reduceSub, Nat.reduceAdd, Int.reduceEq, Int.reduceLT, Int.reduceLE, Int.reduceAdd]⟩
      · have c6 : cls b.toNat = 0 := by omega
        have hl := lexL_other (l := l.drop (a + 1)) (at_ := a) c6
        rw [← dc] at hl
        rw [hl] at hR
        simp only [go_sem, Nat.reduceBEq, Nat.reduceLeDiff, Nat.reduceEqDiff, Nat.reduceSub, Nat.reduceAdd, Int.reduceEq, Int.reduceLT, Int.reduceLE, Int.reduceAdd, h0, h3, h4, h5, hg, hm, ba_size, hlt', hix, c_of, c6, hw1]
        rw [← hR]; rfl
    · have hlt' : decide ((a : Int) < (l.length : Nat)) = false := by simp; omega
      rw [List.drop_of_length_le (by omega), lexL_nil] at hR
      simp only [go_sem, Nat.reduceBEq, Nat.reduceLeDiff, Nat.reduceEqDiff, Nat.reduceSub, Nat.reduceAdd, Int.reduceEq, Int.reduceLT, Int.reduceLE, Int.reduceAdd, h0, h3, h4, h5, hg, hm, ba_size, hlt']
      rw [← hR]
      simp [LexR.pre, encLexR, encLex, encFault]
end Go.Proofs.YtghhkbigmmjanaaGreatDoor.VA

/-! La5 -/
namespace Go.Proofs.YtghhkbigmmjanaaGreatDoor.VA
open Go Go.RowKit
attribute [local go_sem] Nat.add_eq_left Nat.left_eq_add true_and and_true ite_true if_false Int.cast_ofNat_Int eq_self Nat.add_assoc Option.some.injEq decide_true decide_false Bool.not_true Bool.not_false List.size_toArray List.length_cons List.length_nil
set_option linter.unusedSimpArgs false
set_option maxRecDepth 100000

theorem c_rBlank (b : UInt8) (H : Heap) : calls Tryz.prog cfg 54 [.lit (.int .u8 (b.toNat : Nat))] H = some (.ret (.lit (.bool (isBlank b.toNat))) H) := by
  refine calls_pure (fn := Tryz.f54) rfl rfl rfl rfl rfl ?_ H
  generalize b.toNat = n
  by_cases h1 : ((n : Nat) : Int) = 9
  · have : isBlank n = true := by simp [isBlank]; omega
    simp only [go_sem, Nat.reduceBEq, Nat.reduceLeDiff, Nat.reduceEqDiff, Nat.reduceSub, Nat.reduceAdd, Int.reduceEq, Int.reduceLT, Int.reduceLE, Int.reduceAdd, h1, this] <;> rfl
  by_cases h2 : ((n : Nat) : Int) = 10
  · have : isBlank n = true := by simp [isBlank]; omega
    simp only [go_sem, Nat.reduceBEq, Nat.reduceLeDiff, Nat.reduceEqDiff, Nat.reduceSub, Nat.reduceAdd, Int.reduceEq, Int.reduceLT, Int.reduceLE, Int.reduceAdd, h2, this] <;> rfl
  by_cases h3 : ((n : Nat) : Int) = 13
  · have : isBlank n = true := by simp [isBlank]; omega
    simp only [go_sem, Nat.reduceBEq, Nat.reduceLeDiff, Nat.reduceEqDiff, Nat.reduceSub, Nat.reduceAdd, Int.reduceEq, Int.reduceLT, Int.reduceLE, Int.reduceAdd, h3, this] <;> rfl
  have h4 : isBlank n = decide (((n : Nat) : Int) = 32) := by
    by_cases h4 : ((n : Nat) : Int) = 32
    · have : isBlank n = true := by simp [isBlank]; omega
      rw [this, decide_eq_true h4]
    · have : isBlank n = false := by simp [isBlank]; omega
      rw [this, decide_eq_false h4]
  simp only [go_sem, Nat.reduceBEq, Nat.reduceLeDiff, Nat.reduceEqDiff, Nat.reduceSub, Nat.reduceAdd, Int.reduceEq, Int.reduceLT, Int.reduceLE, Int.reduceAdd, h1, h2, h3, h4] <;> rfl
theorem c_rDigit (b : UInt8) (H : Heap) : calls Tryz.prog cfg 57 [.lit (.int .u8 (b.toNat : Nat))] H = some (.ret (.lit (.bool (isDigit b.toNat))) H) := by
  refine calls_pure (fn := Tryz.f57) rfl rfl rfl rfl rfl ?_ H
  generalize b.toNat = n
  by_cases h1 : (48 : Int) ≤ (n : Nat)
  · by_cases h2 : ((n : Nat) : Int) ≤ 57
    · have : isDigit n = true := by simp [isDigit]; omega
      simp only [go_sem, Nat.reduceBEq, Nat.reduceLeDiff, Nat.reduceEqDiff, Nat.reduceSub, Nat.reduceAdd, Int.reduceEq, Int.reduceLT, Int.reduceLE, Int.reduceAdd, h1, h2, this] <;> rfl
    · have : isDigit n = false := by simp [isDigit]; omega
      simp only [go_sem, Nat.reduceBEq, Nat.reduceLeDiff, Nat.reduceEqDiff, Nat.reduceSub, Nat.reduceAdd, Int.reduceEq, Int.reduceLT, Int.reduceLE, Int.reduceAdd, h1, h2, this] <;> rfl
  · have : isDigit n = false := by simp [isDigit]; omega
    simp only [go_sem, Nat.reduceBEq, Nat.reduceLeDiff, Nat.reduceEqDiff, Nat.reduceSub, Nat.reduceAdd, Int.reduceEq, Int.reduceLT, Int.reduceLE, Int.reduceAdd, h1, this] <;> rfl
theorem c_rLetter (b : UInt8) (H : Heap) : calls Tryz.prog cfg 55 [.lit (.int .u8 (b.toNat : Nat))] H = some (.ret (.lit (.bool (isLetter b.toNat))) H) := by
  refine calls_pure (fn := Tryz.f55) rfl rfl rfl rfl rfl ?_ H
  generalize b.toNat = n
  by_cases h1 : (97 : Int) ≤ (n : Nat)
  · have h3 : (65 : Int) ≤ (n : Nat) := by omega
    by_cases h2 : ((n : Nat) : Int) ≤ 122
    · have : isLetter n = true := by simp [isLetter]; omega
      simp only [go_sem, Nat.reduceBEq, Nat.reduceLeDiff, Nat.reduceEqDiff, Nat.reduceSub, Nat.reduceAdd, Int.reduceEq, Int.reduceLT, Int.reduceLE, Int.reduceAdd, h1, h2, this] <;> rfl
    · have h4 : ¬ ((n : Nat) : Int) ≤ 90 := by omega
      have : isLetter n = false := by simp [isLetter]; omega
      simp only [go_sem, Nat.reduceBEq, Nat.reduceLeDiff, Nat.reduceEqDiff, Nat.reduceSub, Nat.reduceAdd, Int.reduceEq, Int.reduceLT, Int.reduceLE, Int.reduceAdd, h1, h2, h3, h4, this] <;> rfl
  · by_cases h3 : (65 : Int) ≤ (n : Nat)
    · by_cases h4 : ((n : Nat) : Int) ≤ 90
      · have : isLetter n = true := by simp [isLetter]; omega
        simp only [go_sem, Nat.reduceBEq, Nat.reduceLeDiff, Nat.reduceEqDiff, Nat.reduceSub, Nat.reduceAdd, Int.reduceEq, Int.reduceLT, Int.reduceLE, Int.reduceAdd, h1, h3, h4, this] <;> rfl
      · have : isLetter n = false := by simp [isLetter]; omega
        simp only [go_sem, Nat.reduceBEq, Nat.reduceLeDiff, Nat.reduceEqDiff, Nat.reduceSub, Nat.reduceAdd, Int.reduceEq, Int.reduceLT, Int.reduceLE, Int.reduceAdd, h1, h3, h4, this] <;> rfl
    · have : isLetter n = false := by simp [isLetter]; omega
      simp only [go_sem, Nat.reduceBEq, Nat.reduceLeDiff, Nat.reduceEqDiff, Nat.reduceSub, Nat.reduceAdd, Int.reduceEq, Int.reduceLT, Int.reduceLE, Int.reduceAdd, h1, h3, this] <;> rfl
theorem c_rInner (b : UInt8) (H : Heap) : calls Tryz.prog cfg 56 [.lit (.int .u8 (b.toNat : Nat))] H = some (.ret (.lit (.bool (inWord b.toNat))) H) := by
  refine calls_pure (fn := Tryz.f56) rfl rfl rfl rfl rfl ?_ H
  cases h1 : isLetter b.toNat with
  | true =>
    have : inWord b.toNat = true := by simp [inWord, h1]
    simp only [go_sem, Nat.reduceBEq, Nat.reduceLeDiff, Nat.reduceEqDiff, Nat.reduceSub, Nat.reduceAdd, Int.reduceEq, Int.reduceLT, Int.reduceLE, Int.reduceAdd, c_rLetter, h1, this] <;> rfl
  | false =>
    cases h2 : isDigit b.toNat with
    | true =>
      have : inWord b.toNat = true := by simp [inWord, h2]
      simp only [go_sem, Nat.reduceBEq, Nat.reduceLeDiff, Nat.reduceEqDiff, Nat.reduceSub, Nat.reduceAdd, Int.reduceEq, Int.reduceLT, Int.reduceLE, Int.reduceAdd, c_rLetter, c_rDigit, h1, h2, this] <;> rfl
    | false =>
      have : inWord b.toNat = decide (((b.toNat : Nat) : Int) = 95) := by
        by_cases h3 : ((b.toNat : Nat) : Int) = 95
        · have h4 : (b.toNat == 95) = true := by simp; omega
          rw [decide_eq_true h3]; simp only [inWord, h1, h2, h4]; rfl
        · have h4 : (b.toNat == 95) = false := by simp; omega
          rw [decide_eq_false h3]; simp only [inWord, h1, h2, h4]; rfl
      simp only [go_sem, Nat.reduceBEq, Nat.reduceLeDiff, Nat.reduceEqDiff, Nat.reduceSub, Nat.reduceAdd, Int.reduceEq, Int.reduceLT, Int.reduceLE, Int.reduceAdd, c_rLetter, c_rDigit, h1, h2, this] <;> rfl
def signL : List UInt8 := [123, 125, 40, 41, 44, 59, 46, 61, 43, 45, 42, 60, 38, 58]
theorem isSign_any (n : Nat) : isSign n = signL.any fun x => x.toNat == n := by
  simp only [isSign, signs, signL, List.any_cons, List.any_nil, List.contains_cons, List.contains_nil]
  have hc : ∀ (a : Nat), (n == a) = (a == n) := fun a => by rw [Bool.eq_iff_iff]; simp; omega
  simp only [hc]
  rfl
theorem c_rSign (b : UInt8) (H : Heap) : calls Tryz.prog cfg 58 [.lit (.int .u8 (b.toNat : Nat))] H = some (.ret (.lit (.bool (isSign b.toNat))) H) := by
  refine calls_pure (fn := Tryz.f58) rfl rfl rfl rfl rfl ?_ H
  have rs : Tryz.f58.results.toList = [.tmp 2] := rfl
  generalize b.toNat = n
  have hsl : [123, 125, 40, 41, 44, 59, 46, 61, 43, 45, 42, 60, 38, 58] = signL := rfl
  simp only [go_sem, Nat.reduceBEq, Nat.reduceLeDiff, Nat.reduceEqDiff, Nat.reduceSub, Nat.reduceAdd, Int.reduceEq, Int.reduceLT, Int.reduceLE, Int.reduceAdd, rs, hsl]
  generalize hr : isSign n = r
  refine W_loop_ind (fun k e H => ∃ a : Nat, k = signL.length - a ∧ a ≤ signL.length ∧ ((signL.drop a).any fun x => x.toNat == n) = r ∧ gget .bad e 0 = .lit (.int .u8 (n : Nat)) ∧ gget .bad e 3 = .lit (.string (ba signL)) ∧ gget .bad e 4 = .lit (.int .i64 (a : Nat)))
    signL.length ⟨0, rfl, by omega, by rw [← hr, isSign_any]; rfl, by simp only [go_sem, Nat.reduceBEq, Nat.reduceLeDiff, Nat.reduceEqDiff, Nat.reduceSub, Nat.reduceAdd, Int.reduceEq, Int.reduceLT, Int.reduceLE, Int.reduceAdd], by simp only [go_sem, Nat.reduceBEq, Nat.reduceLeDiff, Nat.reduceEqDiff, Nat.reduceSub, Nat.reduceAdd, Int.reduceEq, Int.reduceLT, Int.reduceLE, Int.reduceAdd], by simp only [go_sem, Nat.reduceBEq, Nat.reduceLeDiff, Nat.reduceEqDiff, Nat.reduceSub, Nat.reduceAdd, Int.reduceEq, Int.reduceLT, Int.reduceLE, Int.reduceAdd] <;> rfl⟩ ?_
  rintro k ih e H ⟨a, rfl, hle, hR, h0, h3, h4⟩
  have h14 : signL.length = 14 := rfl
  by_cases hlt : a < signL.length
  · have hlt' : decide ((a : Int) < (signL.length : Nat)) = true := by simp; omega
    have dc := drop_cons hlt
    have hix := ixs_ba hlt
    generalize signL.getD a 0 = b at dc hix
    rw [dc, List.any_cons] at hR
    have hw1 := wrap1 (show a + 1 ≤ 9223372036854775807 by omega)
    by_cases hb : ((b.toNat : Nat) : Int) = (n : Nat)
    · have hb' : decide (((b.toNat : Nat) : Int) = (n : Nat)) = true := by simp; omega
      have hb2 : (b.toNat == n) = true := by simp; omega
      rw [hb2] at hR
      simp only [go_sem, Nat.reduceBEq, Nat.reduceLeDiff, Nat.reduceEqDiff, Nat.reduceSub, Nat.reduceAdd, Int.reduceEq, Int.reduceLT, Int.reduceLE, Int.reduceAdd, h0, h3, h4, ba_size, hlt', hix, hb']
      rw [← hR]; rfl
    · have hb' : decide (((b.toNat : Nat) : Int) = (n : Nat)) = false := by simp; omega
      have hb2 : (b.toNat == n) = false := by simp; omega
      rw [hb2, Bool.false_or] at hR
      simp only [go_sem, Nat.reduceBEq, Nat.reduceLeDiff, Nat.reduceEqDiff, Nat.reduceSub, Nat.reduceAdd, Int.reduceEq, Int.reduceLT, Int.reduceLE, Int.reduceAdd, h0, h3, h4, ba_size, hlt', hix, hb', hw1]
      exact ih (signL.length - (a + 1)) (by omega) _ _ ⟨a + 1, rfl, by omega, hR, by simp only [go_sem, Nat.reduceBEq, Nat.reduceLeDiff, Nat.reduceEqDiff, Nat.reduceSub, Nat.reduceAdd, Int.reduceEq, Int.reduceLT, Int.reduceLE, Int.reduceAdd, h0], by simp only [go_sem, Nat.reduceBEq, Nat.reduceLeDiff, Nat.reduceEqDiff, Nat.reduceSub, Nat.reduceAdd, Int.reduceEq, Int.reduceLT, Int.reduceLE, Int.reduceAdd, h3], by simp only [go_sem, Nat.reduceBEq, Nat.reduceLeDiff, Nat.reduceEqDiff, Nat.reduceSub, Nat.reduceAdd, Int.reduceEq, Int.reduceLT, Int.reduceLE, Int.reduceAdd]⟩
  · have hlt' : decide ((a : Int) < (signL.length : Nat)) = false := by simp; omega
    rw [List.drop_of_length_le (by omega)] at hR
    simp only [go_sem, Nat.reduceBEq, Nat.reduceLeDiff, Nat.reduceEqDiff, Nat.reduceSub, Nat.reduceAdd, Int.reduceEq, Int.reduceLT, Int.reduceLE, Int.reduceAdd, h0, h3, h4, ba_size, hlt']
    rw [← hR]; rfl
end Go.Proofs.YtghhkbigmmjanaaGreatDoor.VA

/-! La6 -/
namespace Go.Proofs.YtghhkbigmmjanaaGreatDoor.VA
open Go Go.RowKit
attribute [local go_sem] Nat.add_eq_left Nat.left_eq_add true_and and_true ite_true if_false Int.cast_ofNat_Int eq_self Nat.add_assoc Option.some.injEq decide_true decide_false Bool.not_true Bool.not_false List.size_toArray List.length_cons List.length_nil
set_option linter.unusedSimpArgs false
set_option maxRecDepth 100000

/-- May one append: to what one owns, to nil, to a literal without elements. -/
def AppOk (H : Heap) (o : Own) (n : Nat) (e : TypeId) (sz : Nat) : Prop :=
  match o with
  | .ex => n = 0
  | o => OwnOk H o e sz
@[go_sem] theorem AppOk_up (H : Heap) (k : Nat) (o : Own) (n : Nat) (e : TypeId) (sz : Nat) : AppOk (H.up k) o n e sz = AppOk H o n e sz := by cases o <;> rfl
@[go_sem] theorem AppOk_put (H : Heap) (r : Nat) (cs : List AV) (o : Own) (n : Nat) (e : TypeId) (sz : Nat) : AppOk (H.put r cs) o n e sz = AppOk H o n e sz := by cases o <;> rfl
@[go_sem] theorem AppOk_ex (H : Heap) (n : Nat) (e : TypeId) (sz : Nat) : AppOk H .ex n e sz = (n = 0) := rfl
@[go_sem] theorem AppOk_nil (H : Heap) (n : Nat) (e : TypeId) (sz : Nat) : AppOk H .nil n e sz = True := rfl
@[go_sem] theorem AppOk_ownUs (H : Heap) (o : Own) (id : Nat) (n : Nat) (e : TypeId) (sz : Nat) : AppOk (appU H (ownUs o id)) (.own id e sz) n e sz = True := OwnOk_ownUs o e sz
theorem append_any {P : Program} {t : TypeId} {e : TypeId} {sz bs : Nat} {o o' : Own} {es xs : List (List AV)} {x : List AV} (ht : tElem P t = some (e, sz, bs)) (hz : zeroOk P e sz = true) (hs : 0 < sz)
    (hb : (es.length + (xs.length + 1)) * bs ≤ 140737488355328) (hl : es.length + (xs.length + 1) ≤ 140737488355328) (hx : x.length = sz) (H : Heap) (id : Nat) (ho : AppOk H o es.length e sz) :
    aAppend P t (.sl o es) (.sl o' (x :: xs)) H id = some (.sl (.own id e sz) (es ++ sanLL (x :: xs)), ownUs o id, ownRs o) := by
  cases o with
  | ex =>
    have : es = [] := List.eq_nil_of_length_eq_zero ho
    subst this
    rw [append_ex ht hz hs hb hl hx H id]; rfl
  | nil => exact append_eq ht hz hs hb hl hx H id ho
  | own k e' z => exact append_eq ht hz hs hb hl hx H id ho
  | sh => exact ho.elim

/-! ### how far a span goes -/
theorem span_lt {p : Nat → Bool} : ∀ {l : List UInt8} {j : Nat}, j < span p l → p (l.getD j 0).toNat = true
  | [], j, h => by simp [span_nil] at h
  | b :: l, j, h => by
    rw [span_cons] at h
    split at h
    · rename_i hp
      cases j with
      | zero => simpa using hp
      | succ j => have := span_lt (p := p) (l := l) (j := j) (by omega); simpa using this
    · omega
theorem span_end {p : Nat → Bool} : ∀ {l : List UInt8}, span p l < l.length → p (l.getD (span p l) 0).toNat = false
  | [], h => by simp at h
  | b :: l, h => by
    rw [span_cons] at h ⊢
    cases hp : p b.toNat with
    | true =>
      rw [hp] at h
      simp at h
      have := span_end (l := l) h
      simpa using this
    | false => simpa using hp
theorem getD_drop (l : List UInt8) (a j : Nat) : (l.drop a).getD j 0 = l.getD (a + j) 0 := by
  simp [List.getD_eq_getElem?_getD]
theorem endsNum_drop {l : List UInt8} {n : Nat} (h : n < l.length) : endsNum (l.drop n) = !inWord (l.getD n 0).toNat := by
  rw [drop_cons h]; rfl
theorem digit_word {n : Nat} (h : isDigit n = true) : inWord n = true := by simp [inWord, h]
@[go_sem] theorem bs0_tok : aBuildSlice Tryz.prog 45 0 [] = some (.sl .ex []) := build0 el_tok zr_tok rfl rfl

set_option maxRecDepth 20000 in
theorem c_rLex (l : List UInt8) (H : Heap) : calls Tryz.prog cfg 28 [.lit (.string (ba l))] H = some (.ret (encLex (lexAns l)) H) := by
  refine calls_pure (fn := Tryz.f28) rfl rfl rfl rfl rfl ?_ H
  have rs : Tryz.f28.results.toList = [.tmp 2, .cell 3 27] := rfl
  by_cases hbig : 65536 < l.length
  · have d : decide ((65536 : Int) < (l.length : Nat)) = true := by simp; omega
    simp only [go_sem, Nat.reduceBEq, Nat.reduceLeDiff, Nat.reduceEqDiff, Nat.reduceSub, Nat.reduceAdd, Int.reduceEq, Int.reduceLT, Int.reduceLE, Int.reduceAdd, rs, ba_size, d]
    simp only [lexAns, if_pos hbig, encLex, encFault]
    rfl
  · have d : decide ((65536 : Int) < (l.length : Nat)) = false := by simp; omega
    have hans : encLex (lexAns l) = encLexR (lexL l 0) := by
      simp only [lexAns, if_neg hbig]
      cases lexL l 0 <;> rfl
    rw [hans]
    generalize hR : lexL l 0 = R
    simp only [go_sem, Nat.reduceBEq, Nat.reduceLeDiff, Nat.reduceEqDiff, Nat.reduceSub, Nat.reduceAdd, Int.reduceEq, Int.reduceLT, Int.reduceLE, Int.reduceAdd, rs, ba_size, d]
    refine W_loop_ind (fun n e H => ∃ (a : Nat) (acc : List Tok) (o : Own), n = l.length - a ∧ a ≤ l.length ∧ acc.length ≤ a ∧ LexR.pre acc (lexL (l.drop a) a) = R ∧ gget .bad e 0 = .lit (.string (ba l)) ∧ gget .bad e 3 = .ptr 1 0 ∧
        gget .bad e 4 = .sl o (acc.map encTok) ∧ gget .bad e 5 = .lit (.int .i64 (a : Nat)) ∧ H.get 1 = some [.lit (.int .i64 0), .lit (.int .i64 0)] ∧ 2 ≤ H.next ∧ AppOk H o acc.length 66 3)
      l.length ⟨0, [], .ex, rfl, by omega, by simp, by simpa [LexR.pre_nil] using hR, by simp only [go_sem, Nat.reduceBEq, Nat.reduceLeDiff, Nat.reduceEqDiff, Nat.reduceSub, Nat.reduceAdd, Int.reduceEq, Int.reduceLT, Int.reduceLE, Int.reduceAdd], by simp only [go_sem, Nat.reduceBEq, Nat.reduceLeDiff, Nat.reduceEqDiff, Nat.reduceSub, Nat.reduceAdd, Int.reduceEq, Int.reduceLT, Int.reduceLE, Int.reduceAdd], by simp only [go_sem, Nat.reduceBEq, Nat.reduceLeDiff, Nat.reduceEqDiff, Nat.reduceSub, Nat.reduceAdd, Int.reduceEq, Int.reduceLT, Int.reduceLE, Int.reduceAdd], by simp only [go_sem, Nat.reduceBEq, Nat.reduceLeDiff, Nat.reduceEqDiff, Nat.reduceSub, Nat.reduceAdd, Int.reduceEq, Int.reduceLT, Int.reduceLE, Int.reduceAdd] <;> rfl, by simp only [go_sem, Nat.reduceBEq, Nat.reduceLeDiff, Nat.reduceEqDiff, Nat.reduceSub, Nat.reduceAdd, Int.reduceEq, Int.reduceLT, Int.reduceLE, Int.reduceAdd], by simp only [go_sem, Nat.reduceBEq, Nat.reduceLeDiff, Nat.reduceEqDiff, Nat.reduceSub, Nat.reduceAdd, Int.reduceEq, Int.reduceLT, Int.reduceLE, Int.reduceAdd], by simp only [go_sem, Nat.reduceBEq, Nat.reduceLeDiff, Nat.reduceEqDiff, Nat.reduceSub, Nat.reduceAdd, Int.reduceEq, Int.reduceLT, Int.reduceLE, Int.reduceAdd]⟩ ?_
    rintro n ih e H ⟨a, acc, o, rfl, hle, hacc, hR, h0, h3, h4, h5, hg, hnx, ho⟩
    obtain ⟨m, hm⟩ : ∃ m, H.next = m + 2 := ⟨H.next - 2, by omega⟩
    by_cases hlt : a < l.length
    · have hlt' : decide ((a : Int) < (l.length : Nat)) = true := by simp; omega
      have dc := drop_cons hlt
      generalize hb : l.getD a 0 = b at dc
      have hix := ixs_ba hlt
      rw [hb] at hix
      have hw1 := wrap1 (show a + 1 ≤ 9223372036854775807 by omega)
      have hsl : ∀ k, a + k ≤ l.length → aSlice Tryz.prog 9 (.lit (.string (ba l))) (some (.lit (.int .i64 (a : Nat)))) (some (.lit (.int .i64 (a + k : Nat)))) = some (.lit (.string (ba ((l.drop a).take k)))) := by
        intro k hk
        rw [slice_str und_string (h := a + k) (l := a) (by simp only [optNat, aNat_cast]) (by simp only [optNat, aNat_cast]) (by omega) (by simpa using hk), ba_extract]
        congr 5; omega
      have hap : ∀ (v0 v1 v2 : AV) (H' : Heap) (id : Nat), AppOk H' o acc.length 66 3 → aAppend Tryz.prog 45 (.sl o (acc.map encTok)) (.sl .ex [[v0, v1, v2]]) H' id =
          some (.sl (.own id 66 3) (acc.map encTok ++ sanLL [[v0, v1, v2]]), ownUs o id, ownRs o) := fun v0 v1 v2 H' id hh =>
        append_any el_tok zo_tok (by omega) (by simp; omega) (by simp; omega) rfl H' id (by simpa using hh)
      have hspan : ∀ p, a + span p (l.drop a) ≤ l.length := fun p => by have := span_le p (l.drop a); simp at this; omega
      have hixj : ∀ j, a + j < l.length → ixs (some .string) (.lit (.string (ba l))) (some (a + j)) = some (.lit (.int .u8 (((l.drop a).getD j 0).toNat : Nat))) := fun j hj => by rw [getD_drop]; exact ixs_ba hj
      have c0 := cls_lt b.toNat
      cases k1 : isBlank b.toNat with
      | true =>
        have c1 : cls b.toNat = 1 := by simp [cls, k1]
        have hl := lexL_blank (l := l.drop (a + 1)) (at_ := a) c1
        rw [← dc] at hl
        rw [hl] at hR
        simp only [go_sem, Nat.reduceBEq, Nat.reduceLeDiff, Nat.reduceEqDiff, Nat.reduceSub, Nat.reduceAdd, Int.reduceEq, Int.reduceLT, Int.reduceLE, Int.reduceAdd, h0, h3, h4, h5, hg, hm, ba_size, hlt', hix, c_rBlank, k1, hw1]
        exact ih (l.length - (a + 1)) (by omega) _ _ ⟨a + 1, acc, o, rfl, by omega, by omega, hR, by simp only [go_sem, Nat.reduceBEq, Nat.reduceLeDiff, Nat.reduceEqDiff, Nat.reduceSub, Nat.reduceAdd, Int.reduceEq, Int.reduceLT, Int.reduceLE, Int.reduceAdd, h0], by simp only [go_sem, Nat.reduceBEq, Nat.reduceLeDiff, Nat.reduceEqDiff, Nat.reduceSub, Nat.reduceAdd, Int.reduceEq, Int.reduceLT, Int.reduceLE, Int.reduceAdd, h3], by simp only [go_sem, Nat.reduceBEq, Nat.reduceLeDiff, Nat.reduceEqDiff, Nat.reduceSub, Nat.reduceAdd, Int.reduceEq, Int.reduceLT, Int.reduceLE, Int.reduceAdd, h4], by simp only [go_sem, Nat.reduceBEq, Nat.reduceLeDiff, Nat.reduceEqDiff, Nat.reduceSub, Nat.reduceAdd, Int.reduceEq, Int.reduceLT, Int.reduceLE, Int.reduceAdd], by simp only [go_sem, Nat.reduceBEq, Nat.reduceLeDiff, Nat.reduceEqDiff, Nat.reduceSub, Nat.reduceAdd, Int.reduceEq, Int.reduceLT, Int.reduceLE, Int.reduceAdd, hg], by simp only [go_sem, Nat.reduceBEq, Nat.reduceLeDiff, Nat.reduceEqDiff, Nat.reduceSub, Nat.reduceAdd, Int.reduceEq, Int.reduceLT, Int.reduceLE, Int.reduceAdd, hm], by simp only [go_sem, Nat.reduceBEq, Nat.reduceLeDiff, Nat.reduceEqDiff, Nat.reduceSub, Nat.reduceAdd, Int.reduceEq, Int.reduceLT, Int.reduceLE, Int.reduceAdd, ho]⟩
      | false =>
      by_cases k2 : ((b.toNat : Nat) : Int) = 35
      · have c2 : cls b.toNat = 2 := cls_2 (by omega)
        have hl := lexL_remark (l := l.drop (a + 1)) (at_ := a) c2
        rw [← dc] at hl
        rw [hl, List.drop_drop] at hR
        have hp : 0 < span notNl (l.drop a) := by rw [dc, span_pos (cls2 c2)]; omega
        have hk := hspan notNl
        have d2 : decide (((b.toNat : Nat) : Int) = 35) = true := by simp; omega
        simp only [go_sem, Nat.reduceBEq, Nat.reduceLeDiff, Nat.reduceEqDiff, Nat.reduceSub, Nat.reduceAdd, Int.reduceEq, Int.reduceLT, Int.reduceLE, Int.reduceAdd, h0, h3, h4, h5, hg, hm, ba_size, hlt', hix, c_rBlank, k1, d2]
        refine W_loop_ind (fun n e H => ∃ j : Nat, n = span notNl (l.drop a) - j ∧ j ≤ span notNl (l.drop a) ∧ gget .bad e 0 = .lit (.string (ba l)) ∧ gget .bad e 3 = .ptr 1 0 ∧
            gget .bad e 4 = .sl o (acc.map encTok) ∧ gget .bad e 5 = .lit (.int .i64 (a + j : Nat)) ∧ H.get 1 = some [.lit (.int .i64 0), .lit (.int .i64 0)] ∧ 2 ≤ H.next ∧ AppOk H o acc.length 66 3)
          (span notNl (l.drop a)) ⟨0, rfl, by omega, by simp only [go_sem, Nat.reduceBEq, Nat.reduceLeDiff, Nat.reduceEqDiff, Nat.reduceSub, Nat.reduceAdd, Int.reduceEq, Int.reduceLT, Int.reduceLE, Int.reduceAdd, h0], by simp only [go_sem, Nat.reduceBEq, Nat.reduceLeDiff, Nat.reduceEqDiff, Nat.reduceSub, Nat.reduceAdd, Int.reduceEq, Int.reduceLT, Int.reduceLE, Int.reduceAdd, h3], by simp only [go_sem, Nat.reduceBEq, Nat.reduceLeDiff, Nat.reduceEqDiff, Nat.reduceSub, Nat.reduceAdd, Int.reduceEq, Int.reduceLT, Int.reduceLE, Int.reduceAdd, h4], by simp only [go_sem, Nat.reduceBEq, Nat.reduceLeDiff, Nat.reduceEqDiff, Nat.reduceSub, Nat.reduceAdd, Int.reduceEq, Int.reduceLT, Int.reduceLE, Int.reduceAdd, h5] <;> rfl, by simp only [go_sem, Nat.reduceBEq, Nat.reduceLeDiff, Nat.reduceEqDiff, Nat.reduceSub, Nat.reduceAdd, Int.reduceEq, Int.reduceLT, Int.reduceLE, Int.reduceAdd, hg], by simp only [go_sem, Nat.reduceBEq, Nat.reduceLeDiff, Nat.reduceEqDiff, Nat.reduceSub, Nat.reduceAdd, Int.reduceEq, Int.reduceLT, Int.reduceLE, Int.reduceAdd, hm], by simp only [go_sem, Nat.reduceBEq, Nat.reduceLeDiff, Nat.reduceEqDiff, Nat.reduceSub, Nat.reduceAdd, Int.reduceEq, Int.reduceLT, Int.reduceLE, Int.reduceAdd, ho]⟩ ?_
        rintro n ih2 e H ⟨j, rfl, hj, h0, h3, h4, h5, hg, hnx, ho⟩
        obtain ⟨m, hm⟩ : ∃ m, H.next = m + 2 := ⟨H.next - 2, by omega⟩
        by_cases hjl : a + j < l.length
        · have hjl' : decide (((a + j : Nat) : Int) < (l.length : Nat)) = true := by simp; omega
          by_cases hjk : j < span notNl (l.drop a)
          · have hnl := span_lt hjk
            have d3 : decide (((((l.drop a).getD j 0).toNat : Nat) : Int) = 10) = false := by simp [notNl] at hnl ⊢; omega
            have hwj : IntKind.wrap .i64 (((a + j : Nat) : Int) + 1) = ((a + (j + 1) : Nat) : Int) := wrap1 (by omega)
            simp only [go_sem, Nat.reduceBEq, Nat.reduceLeDiff, Nat.reduceEqDiff, Nat.reduceSub, Nat.reduceAdd, Int.reduceEq, Int.reduceLT, Int.reduceLE, Int.reduceAdd, h0, h3, h4, h5, hg, hm, ba_size, hjl', hixj _ hjl, d3, hwj]
            exact ih2 (span notNl (l.drop a) - (j + 1)) (by omega) _ _ ⟨j + 1, rfl, by omega, by simp only [go_sem, Nat.reduceBEq, Nat.reduceLeDiff, Nat.reduceEqDiff, Nat.reduceSub, Nat.reduceAdd, Int.reduceEq, Int.reduceLT, Int.reduceLE, Int.reduceAdd, h0], by simp only [go_sem, Nat.reduceBEq, Nat.reduceLeDiff, Nat.reduceEqDiff, Nat.reduceSub, Nat.reduceAdd, Int.reduceEq, Int.reduceLT, Int.reduceLE, Int.reduceAdd, h3], by simp only [go_sem, Nat.reduceBEq, Nat.reduceLeDiff, Nat.reduceEqDiff, Nat.reduceSub, Nat.reduceAdd, Int.reduceEq, Int.reduceLT, Int.reduceLE, Int.reduceAdd, h4], by simp only [go_sem, Nat.reduceBEq, Nat.reduceLeDiff, Nat.reduceEqDiff, Nat.reduceSub, Nat.reduceAdd, Int.reduceEq, Int.reduceLT, Int.reduceLE, Int.reduceAdd], by simp only [go_sem, Nat.reduceBEq, Nat.reduceLeDiff, Nat.reduceEqDiff, Nat.reduceSub, Nat.reduceAdd, Int.reduceEq, Int.reduceLT, Int.reduceLE, Int.reduceAdd, hg], by simp only [go_sem, Nat.reduceBEq, Nat.reduceLeDiff, Nat.reduceEqDiff, Nat.reduceSub, Nat.reduceAdd, Int.reduceEq, Int.reduceLT, Int.reduceLE, Int.reduceAdd, hm], by simp only [go_sem, Nat.reduceBEq, Nat.reduceLeDiff, Nat.reduceEqDiff, Nat.reduceSub, Nat.reduceAdd, Int.reduceEq, Int.reduceLT, Int.reduceLE, Int.reduceAdd, ho]⟩
          · have hje : j = span notNl (l.drop a) := by omega
            have hnl := span_end (p := notNl) (l := l.drop a) (by simp; omega)
            rw [← hje] at hnl
            have d3 : decide (((((l.drop a).getD j 0).toNat : Nat) : Int) = 10) = true := by simp [notNl] at hnl ⊢; omega
            simp only [go_sem, Nat.reduceBEq, Nat.reduceLeDiff, Nat.reduceEqDiff, Nat.reduceSub, Nat.reduceAdd, Int.reduceEq, Int.reduceLT, Int.reduceLE, Int.reduceAdd, h0, h3, h4, h5, hg, hm, ba_size, hjl', hixj _ hjl, d3]
            rw [← hje] at hR
            exact ih (l.length - (a + j)) (by omega) _ _ ⟨a + j, acc, o, rfl, by omega, by omega, hR, by simp only [go_sem, Nat.reduceBEq, Nat.reduceLeDiff, Nat.reduceEqDiff, Nat.reduceSub, Nat.reduceAdd, Int.reduceEq, Int.reduceLT, Int.reduceLE, Int.reduceAdd, h0], by simp only [go_sem, Nat.reduceBEq, Nat.reduceLeDiff, Nat.reduceEqDiff, Nat.reduceSub, Nat.reduceAdd, Int.reduceEq, Int.reduceLT, Int.reduceLE, Int.reduceAdd, h3], by simp only [go_sem, Nat.reduceBEq, Nat.reduceLeDiff, Nat.reduceEqDiff, Nat.reduceSub, Nat.reduceAdd, Int.reduceEq, Int.reduceLT, Int.reduceLE, Int.reduceAdd, h4], by simp only [go_sem, Nat.reduceBEq, Nat.reduceLeDiff, Nat.reduceEqDiff, Nat.reduceSub, Nat.reduceAdd, Int.reduceEq, Int.reduceLT, Int.reduceLE, Int.reduceAdd, h5], by simp only [go_sem, Nat.reduceBEq, Nat.reduceLeDiff, Nat.reduceEqDiff, Nat.reduceSub, Nat.reduceAdd, Int.reduceEq, Int.reduceLT, Int.reduceLE, Int.reduceAdd, hg], by simp only [go_sem, Nat.reduceBEq, Nat.reduceLeDiff, Nat.reduceEqDiff, Nat.reduceSub, Nat.reduceAdd, Int.reduceEq, Int.reduceLT, Int.reduceLE, Int.reduceAdd, hm], by simp only [go_sem, Nat.reduceBEq, Nat.reduceLeDiff, Nat.reduceEqDiff, Nat.reduceSub, Nat.reduceAdd, Int.reduceEq, Int.reduceLT, Int.reduceLE, Int.reduceAdd, ho]⟩
        · have hjl' : decide (((a + j : Nat) : Int) < (l.length : Nat)) = false := by simp; omega
          have hje : j = span notNl (l.drop a) := by omega
          simp only [go_sem, Nat.reduceBEq, Nat.reduceLeDiff, Nat.reduceEqDiff, Nat.reduceSub, Nat.reduceAdd, Int.reduceEq, Int.reduceLT, Int.reduceLE, Int.reduceAdd, h0, h3, h4, h5, hg, hm, ba_size, hjl']
          rw [← hje] at hR
          exact ih (l.length - (a + j)) (by omega) _ _ ⟨a + j, acc, o, rfl, by omega, by omega, hR, by simp only [go_sem, Nat.reduceBEq, Nat.reduceLeDiff, Nat.reduceEqDiff, Nat.reduceSub, Nat.reduceAdd, Int.reduceEq, Int.reduceLT, Int.reduceLE, Int.reduceAdd, h0], by simp only [go_sem, Nat.reduceBEq, Nat.reduceLeDiff, Nat.reduceEqDiff, Nat.reduceSub, Nat.reduceAdd, Int.reduceEq, Int.reduceLT, Int.reduceLE, Int.reduceAdd, h3], by simp only [go_sem, Nat.reduceBEq, Nat.reduceLeDiff, Nat.reduceEqDiff, Nat.reduceSub, Nat.reduceAdd, Int.reduceEq, Int.reduceLT, Int.reduceLE, Int.reduceAdd, h4], by simp only [go_sem, Nat.reduceBEq, Nat.reduceLeDiff, Nat.reduceEqDiff, Nat.reduceSub, Nat.reduceAdd, Int.reduceEq, Int.reduceLT, Int.reduceLE, Int.reduceAdd, h5], by simp only [go_sem, Nat.reduceBEq, Nat.reduceLeDiff, Nat.reduceEqDiff, Nat.reduceSub, Nat.reduceAdd, Int.reduceEq, Int.reduceLT, Int.reduceLE, Int.reduceAdd, hg], by simp only [go_sem, Nat.reduceBEq, Nat.reduceLeDiff, Nat.reduceEqDiff, Nat.reduceSub, Nat.reduceAdd, Int.reduceEq, Int.reduceLT, Int.reduceLE, Int.reduceAdd, hm], by simp only [go_sem, Nat.reduceBEq, Nat.reduceLeDiff, Nat.reduceEqDiff, Nat.reduceSub, Nat.reduceAdd, Int.reduceEq, Int.reduceLT, Int.reduceLE, Int.reduceAdd, ho]⟩
      have d2 : decide (((b.toNat : Nat) : Int) = 35) = false := by simp; omega
      cases k3 : isLetter b.toNat with
      | true =>
        have c3 : cls b.toNat = 3 := (cls3_iff _).2 k3
        have hl := lexL_word (l := l.drop (a + 1)) (at_ := a) c3
        rw [← dc] at hl
        rw [hl, List.drop_drop, LexR.pre_pre] at hR
        have hp : 0 < span inWord (l.drop a) := by rw [dc, span_pos (cls3 c3)]; omega
        have hk := hspan inWord
        simp only [go_sem, Nat.reduceBEq, Nat.reduceLeDiff, Nat.reduceEqDiff, Nat.reduceSub, Nat.reduceAdd, Int.reduceEq, Int.reduceLT, Int.reduceLE, Int.reduceAdd, h0, h3, h4, h5, hg, hm, ba_size, hlt', hix, c_rBlank, c_rLetter, k1, d2, k3, hw1]
        refine W_loop_ind (fun n e H => ∃ j : Nat, n = span inWord (l.drop a) - j ∧ 0 < j ∧ j ≤ span inWord (l.drop a) ∧ gget .bad e 0 = .lit (.string (ba l)) ∧ gget .bad e 3 = .ptr 1 0 ∧
            gget .bad e 4 = .sl o (acc.map encTok) ∧ gget .bad e 5 = .lit (.int .i64 (a : Nat)) ∧ gget .bad e 7 = .lit (.int .i64 (a + j : Nat)) ∧ gget .bad e 8 = .lit (.int .i64 0) ∧
            H.get 1 = some [.lit (.int .i64 0), .lit (.int .i64 0)] ∧ 2 ≤ H.next ∧ AppOk H o acc.length 66 3)
          (span inWord (l.drop a) - 1) ⟨1, rfl, by omega, by omega, by simp only [go_sem, Nat.reduceBEq, Nat.reduceLeDiff, Nat.reduceEqDiff, Nat.reduceSub, Nat.reduceAdd, Int.reduceEq, Int.reduceLT, Int.reduceLE, Int.reduceAdd, h0], by simp only [go_sem, Nat.reduceBEq, Nat.reduceLeDiff, Nat.reduceEqDiff, Nat.reduceSub, Nat.reduceAdd, Int.reduceEq, Int.reduceLT, Int.reduceLE, Int.reduceAdd, h3], by simp only [go_sem, Nat.reduceBEq, Nat.reduceLeDiff, Nat.reduceEqDiff, Nat.reduceSub, Nat.reduceAdd, Int.reduceEq, Int.reduceLT, Int.reduceLE, Int.reduceAdd, h4], by simp only [go_sem, Nat.reduceBEq, Nat.reduceLeDiff, Nat.reduceEqDiff, Nat.reduceSub, Nat.reduceAdd, Int.reduceEq, Int.reduceLT, Int.reduceLE, Int.reduceAdd, h5], by simp only [go_sem, Nat.reduceBEq, Nat.reduceLeDiff, Nat.reduceEqDiff, Nat.reduceSub, Nat.reduceAdd, Int.reduceEq, Int.reduceLT, Int.reduceLE, Int.reduceAdd], by simp only [go_sem, Nat.reduceBEq, Nat.reduceLeDiff, Nat.reduceEqDiff, Nat.reduceSub, Nat.reduceAdd, Int.reduceEq, Int.reduceLT, Int.reduceLE, Int.reduceAdd], by simp only [go_sem, Nat.reduceBEq, Nat.reduceLeDiff, Nat.reduceEqDiff, Nat.reduceSub, Nat.reduceAdd, Int.reduceEq, Int.reduceLT, Int.reduceLE, Int.reduceAdd, hg], by simp only [go_sem, Nat.reduceBEq, Nat.reduceLeDiff, Nat.reduceEqDiff, Nat.reduceSub, Nat.reduceAdd, Int.reduceEq, Int.reduceLT, Int.reduceLE, Int.reduceAdd, hm], by simp only [go_sem, Nat.reduceBEq, Nat.reduceLeDiff, Nat.reduceEqDiff, Nat.reduceSub, Nat.reduceAdd, Int.reduceEq, Int.reduceLT, Int.reduceLE, Int.reduceAdd, ho]⟩ ?_
        rintro n ih2 e H ⟨j, rfl, hj0, hj, h0, h3, h4, h5, h7, h8, hg, hnx, ho⟩
        obtain ⟨m, hm⟩ : ∃ m, H.next = m + 2 := ⟨H.next - 2, by omega⟩
        by_cases hjk : j < span inWord (l.drop a)
        · have hjl : a + j < l.length := by omega
          have hjl' : decide (((a + j : Nat) : Int) < (l.length : Nat)) = true := by simp; omega
          have hnl := span_lt hjk
          have hwj : IntKind.wrap .i64 (((a + j : Nat) : Int) + 1) = ((a + (j + 1) : Nat) : Int) := wrap1 (by omega)
          simp only [go_sem, Nat.reduceBEq, Nat.reduceLeDiff, Nat.reduceEqDiff, Nat.reduceSub, Nat.reduceAdd, Int.reduceEq, Int.reduceLT, Int.reduceLE, Int.reduceAdd, h0, h3, h4, h5, h7, h8, hg, hm, ba_size, hjl', hixj _ hjl, c_rInner, hnl, hwj]
          exact ih2 (span inWord (l.drop a) - (j + 1)) (by omega) _ _ ⟨j + 1, rfl, by omega, by omega, by simp only [go_sem, Nat.reduceBEq, Nat.reduceLeDiff, Nat.reduceEqDiff, Nat.reduceSub, Nat.reduceAdd, Int.reduceEq, Int.reduceLT, Int.reduceLE, Int.reduceAdd, h0], by simp only [go_sem, Nat.reduceBEq, Nat.reduceLeDiff, Nat.reduceEqDiff, Nat.reduceSub, Nat.reduceAdd, Int.reduceEq, Int.reduceLT, Int.reduceLE, Int.reduceAdd, h3], by simp only [go_sem, Nat.reduceBEq, Nat.reduceLeDiff, Nat.reduceEqDiff, Nat.reduceSub, Nat.reduceAdd, Int.reduceEq, Int.reduceLT, Int.reduceLE, Int.reduceAdd, h4], by simp only [go_sem, Nat.reduceBEq, Nat.reduceLeDiff, Nat.reduceEqDiff, Nat.reduceSub, Nat.reduceAdd, Int.reduceEq, Int.reduceLT, Int.reduceLE, Int.reduceAdd, h5], by simp only [go_sem, Nat.reduceBEq, Nat.reduceLeDiff, Nat.reduceEqDiff, Nat.reduceSub, Nat.reduceAdd, Int.reduceEq, Int.reduceLT, Int.reduceLE, Int.reduceAdd], by simp only [go_sem, Nat.reduceBEq, Nat.reduceLeDiff, Nat.reduceEqDiff, Nat.reduceSub, Nat.reduceAdd, Int.reduceEq, Int.reduceLT, Int.reduceLE, Int.reduceAdd, h8], by simp only [go_sem, Nat.reduceBEq, Nat.reduceLeDiff, Nat.reduceEqDiff, Nat.reduceSub, Nat.reduceAdd, Int.reduceEq, Int.reduceLT, Int.reduceLE, Int.reduceAdd, hg], by simp only [go_sem, Nat.reduceBEq, Nat.reduceLeDiff, Nat.reduceEqDiff, Nat.reduceSub, Nat.reduceAdd, Int.reduceEq, Int.reduceLT, Int.reduceLE, Int.reduceAdd, hm], by simp only [go_sem, Nat.reduceBEq, Nat.reduceLeDiff, Nat.reduceEqDiff, Nat.reduceSub, Nat.reduceAdd, Int.reduceEq, Int.reduceLT, Int.reduceLE, Int.reduceAdd, ho]⟩
        · have hje : j = span inWord (l.drop a) := by omega
          rw [← hje] at hR
          by_cases hjl : a + j < l.length
          · have hjl' : decide (((a + j : Nat) : Int) < (l.length : Nat)) = true := by simp; omega
            have hnl := span_end (p := inWord) (l := l.drop a) (by simp; omega)
            rw [← hje] at hnl
            simp only [go_sem, Nat.reduceBEq, Nat.reduceLeDiff, Nat.reduceEqDiff, Nat.reduceSub, Nat.reduceAdd, Int.reduceEq, Int.reduceLT, Int.reduceLE, Int.reduceAdd, h0, h3, h4, h5, h7, h8, hg, hm, ba_size, hjl', hixj _ hjl, c_rInner, hnl, hsl j (by omega), bs1_tok, hap, ho]
            exact ih (l.length - (a + j)) (by omega) _ _ ⟨a + j, acc ++ [⟨0, (l.drop a).take j, a⟩], _, rfl, by omega, by simp; omega, hR, by simp only [go_sem, Nat.reduceBEq, Nat.reduceLeDiff, Nat.reduceEqDiff, Nat.reduceSub, Nat.reduceAdd, Int.reduceEq, Int.reduceLT, Int.reduceLE, Int.reduceAdd, h0], by simp only [go_sem, Nat.reduceBEq, Nat.reduceLeDiff, Nat.reduceEqDiff, Nat.reduceSub, Nat.reduceAdd, Int.reduceEq, Int.reduceLT, Int.reduceLE, Int.reduceAdd, h3], by simp only [go_sem, Nat.reduceBEq, Nat.reduceLeDiff, Nat.reduceEqDiff, Nat.reduceSub, Nat.reduceAdd, Int.reduceEq, Int.reduceLT, Int.reduceLE, Int.reduceAdd, List.map_append, encTok] <;> rfl,
              by simp only [go_sem, Nat.reduceBEq, Nat.reduceLeDiff, Nat.reduceEqDiff, Nat.reduceSub, Nat.reduceAdd, Int.reduceEq, Int.reduceLT, Int.reduceLE, Int.reduceAdd], by simp only [go_sem, Nat.reduceBEq, Nat.reduceLeDiff, Nat.reduceEqDiff, Nat.reduceSub, Nat.reduceAdd, Int.reduceEq, Int.reduceLT, Int.reduceLE, Int.reduceAdd, hg], by simp only [go_sem, Nat.reduceBEq, Nat.reduceLeDiff, Nat.reduceEqDiff, Nat.reduceSub, Nat.reduceAdd, Int.reduceEq, Int.reduceLT, Int.reduceLE, Int.reduceAdd, hm], by simp only [go_sem, Nat.reduceBEq, Nat.reduceLeDiff, Nat.reduceEqDiff, Nat.reduceSub, Nat.reduceAdd, Int.reduceEq, Int.reduceLT, Int.reduceLE, Int.reduceAdd]⟩
          · have hjl' : decide (((a + j : Nat) : Int) < (l.length : Nat)) = false := by simp; omega
            simp only [go_sem, Nat.reduceBEq, Nat.reduceLeDiff, Nat.reduceEqDiff, Nat.reduceSub, Nat.reduceAdd, Int.reduceEq, Int.reduceLT, Int.reduceLE, Int.reduceAdd, h0, h3, h4, h5, h7, h8, hg, hm, ba_size, hjl', hsl j (by omega), bs1_tok, hap, ho]
            exact ih (l.length - (a + j)) (by omega) _ _ ⟨a + j, acc ++ [⟨0, (l.drop a).take j, a⟩], _, rfl, by omega, by simp; omega, hR, by simp only [go_sem, Nat.reduceBEq, Nat.reduceLeDiff, Nat.reduceEqDiff, Nat.reduceSub, Nat.reduceAdd, Int.reduceEq, Int.reduceLT, Int.reduceLE, Int.reduceAdd, h0], by simp only [go_sem, Nat.reduceBEq, Nat.reduceLeDiff, Nat.reduceEqDiff, Nat.reduceSub, Nat.reduceAdd, Int.reduceEq, Int.reduceLT, Int.reduceLE, Int.reduceAdd, h3], by simp only [go_sem, Nat.reduceBEq, Nat.reduceLeDiff, Nat.reduceEqDiff, Nat.reduceSub, Nat.reduceAdd, Int.reduceEq, Int.reduceLT, Int.reduceLE, Int.reduceAdd, List.map_append, encTok] <;> rfl,
              by simp only [go_sem, Nat.reduceBEq, Nat.reduceLeDiff, Nat.reduceEqDiff, Nat.reduceSub, Nat.reduceAdd, Int.reduceEq, Int.reduceLT, Int.reduceLE, Int.reduceAdd], by simp only [go_sem, Nat.reduceBEq, Nat.reduceLeDiff, Nat.reduceEqDiff, Nat.reduceSub, Nat.reduceAdd, Int.reduceEq, Int.reduceLT, Int.reduceLE, Int.reduceAdd, hg], by simp only [go_sem, Nat.reduceBEq, Nat.reduceLeDiff, Nat.reduceEqDiff, Nat.reduceSub, Nat.reduceAdd, Int.reduceEq, Int.reduceLT, Int.reduceLE, Int.reduceAdd, hm], by simp only [go_sem, Nat.reduceBEq, Nat.reduceLeDiff, Nat.reduceEqDiff, Nat.reduceSub, Nat.reduceAdd, Int.reduceEq, Int.reduceLT, Int.reduceLE, Int.reduceAdd]⟩
      | false =>
      cases k4 : isDigit b.toNat with
      | true =>
        have c4 : cls b.toNat = 4 := (cls4_iff _).2 k4
        have hp : 0 < span isDigit (l.drop a) := by rw [dc, span_pos (cls4 c4)]; omega
        have hk := hspan isDigit
        have hnok : ¬ (span isDigit (l.drop a) ≤ 9 ∧ endsNum ((l.drop a).drop (span isDigit (l.drop a))) = true) → encLexR R = encLexR (.err a) := fun hn => by
          have hl := lexL_notnum (l := l.drop (a + 1)) (at_ := a) c4 (by rw [← dc]; exact hn)
          rw [← dc] at hl
          rw [← hR, hl]; rfl
        have hok : span isDigit (l.drop a) ≤ 9 → endsNum ((l.drop a).drop (span isDigit (l.drop a))) = true →
            LexR.pre (acc ++ [⟨1, (l.drop a).take (span isDigit (l.drop a)), a⟩]) (lexL (l.drop (a + span isDigit (l.drop a))) (a + span isDigit (l.drop a))) = R := fun hn1 hn2 => by
          have hl := lexL_num (l := l.drop (a + 1)) (at_ := a) c4 (by rw [← dc]; exact hn1) (by rw [← dc]; exact hn2)
          rw [← dc] at hl
          rw [hl, List.drop_drop, LexR.pre_pre] at hR
          exact hR
        simp only [go_sem, Nat.reduceBEq, Nat.reduceLeDiff, Nat.reduceEqDiff, Nat.reduceSub, Nat.reduceAdd, Int.reduceEq, Int.reduceLT, Int.reduceLE, Int.reduceAdd, h0, h3, h4, h5, hg, hm, ba_size, hlt', hix, c_rBlank, c_rLetter, c_rDigit, k1, d2, k3, k4, hw1]
        refine W_loop_ind (fun n e H => ∃ j : Nat, n = span isDigit (l.drop a) - j ∧ 0 < j ∧ j ≤ span isDigit (l.drop a) ∧ gget .bad e 0 = .lit (.string (ba l)) ∧ gget .bad e 3 = .ptr 1 0 ∧
            gget .bad e 4 = .sl o (acc.map encTok) ∧ gget .bad e 5 = .lit (.int .i64 (a : Nat)) ∧ gget .bad e 7 = .lit (.int .i64 (a + j : Nat)) ∧ gget .bad e 8 = .lit (.int .i64 1) ∧
            H.get 1 = some [.lit (.int .i64 0), .lit (.int .i64 0)] ∧ 2 ≤ H.next ∧ AppOk H o acc.length 66 3)
          (span isDigit (l.drop a) - 1) ⟨1, rfl, by omega, by omega, by simp only [go_sem, Nat.reduceBEq, Nat.reduceLeDiff, Nat.reduceEqDiff, Nat.reduceSub, Nat.reduceAdd, Int.reduceEq, Int.reduceLT, Int.reduceLE, Int.reduceAdd, h0], by simp only [go_sem, Nat.reduceBEq, Nat.reduceLeDiff, Nat.reduceEqDiff, Nat.reduceSub, Nat.reduceAdd, Int.reduceEq, Int.reduceLT, Int.reduceLE, Int.reduceAdd, h3], by simp only [go_sem, Nat.reduceBEq, Nat.reduceLeDiff, Nat.reduceEqDiff, Nat.reduceSub, Nat.reduceAdd, Int.reduceEq, Int.reduceLT, Int.reduceLE, Int.reduceAdd, h4], by simp only [go_sem, Nat.reduceBEq, Nat.reduceLeDiff, Nat.reduceEqDiff, Nat.reduceSub, Nat.reduceAdd, Int.reduceEq, Int.reduceLT, Int.reduceLE, Int.reduceAdd, h5], by simp only [go_sem, Nat.reduceBEq, Nat.reduceLeDiff, Nat.reduceEqDiff, Nat.reduceSub, Nat.reduceAdd, Int.reduceEq, Int.reduceLT, Int.reduceLE, Int.reduceAdd], by simp only [go_sem, Nat.reduceBEq, Nat.reduceLeDiff, Nat.reduceEqDiff, Nat.reduceSub, Nat.reduceAdd, Int.reduceEq, Int.reduceLT, Int.reduceLE, Int.reduceAdd], by simp only [go_sem, Nat.reduceBEq, Nat.reduceLeDiff, Nat.reduceEqDiff, Nat.reduceSub, Nat.reduceAdd, Int.reduceEq, Int.reduceLT, Int.reduceLE, Int.reduceAdd, hg], by simp only [go_sem, Nat.reduceBEq, Nat.reduceLeDiff, Nat.reduceEqDiff, Nat.reduceSub, Nat.reduceAdd, Int.reduceEq, Int.reduceLT, Int.reduceLE, Int.reduceAdd, hm], by simp only [go_sem, Nat.reduceBEq, Nat.reduceLeDiff, Nat.reduceEqDiff, Nat.reduceSub, Nat.reduceAdd, Int.reduceEq, Int.reduceLT, Int.reduceLE, Int.reduceAdd, ho]⟩ ?_
        rintro n ih2 e H ⟨j, rfl, hj0, hj, h0, h3, h4, h5, h7, h8, hg, hnx, ho⟩
        obtain ⟨m, hm⟩ : ∃ m, H.next = m + 2 := ⟨H.next - 2, by omega⟩
        have hws : IntKind.wrap .i64 (((a + j : Nat) : Int) - (a : Nat)) = (j : Nat) := by rw [wrap64 (by omega) (by omega)]; omega
        by_cases hjk : j < span isDigit (l.drop a)
        · have hjl : a + j < l.length := by omega
          have hjl' : decide (((a + j : Nat) : Int) < (l.length : Nat)) = true := by simp; omega
          have hnl := span_lt hjk
          have hnw := digit_word hnl
          have hwj : IntKind.wrap .i64 (((a + j : Nat) : Int) + 1) = ((a + (j + 1) : Nat) : Int) := wrap1 (by omega)
          simp only [go_sem, Nat.reduceBEq, Nat.reduceLeDiff, Nat.reduceEqDiff, Nat.reduceSub, Nat.reduceAdd, Int.reduceEq, Int.reduceLT, Int.reduceLE, Int.reduceAdd, h0, h3, h4, h5, h7, h8, hg, hm, ba_size, hjl', hixj _ hjl, c_rInner, c_rDigit, hnl, hnw, hwj]
          exact ih2 (span isDigit (l.drop a) - (j + 1)) (by omega) _ _ ⟨j + 1, rfl, by omega, by omega, by simp only [go_sem, Nat.reduceBEq, Nat.reduceLeDiff, Nat.reduceEqDiff, Nat.reduceSub, Nat.reduceAdd, Int.reduceEq, Int.reduceLT, Int.reduceLE, Int.reduceAdd, h0], by simp only [go_sem, Nat.reduceBEq, Nat.reduceLeDiff, Nat.reduceEqDiff, Nat.reduceSub, Nat.reduceAdd, Int.reduceEq, Int.reduceLT, Int.reduceLE, Int.reduceAdd, h3], by simp only [go_sem, Nat.reduceBEq, Nat.reduceLeDiff, Nat.reduceEqDiff, Nat.reduceSub, Nat.reduceAdd, Int.reduceEq, Int.reduceLT, Int.reduceLE, Int.reduceAdd, h4], by simp only [go_sem, Nat.reduceBEq, Nat.reduceLeDiff, Nat.reduceEqDiff, Nat.reduceSub, Nat.reduceAdd, Int.reduceEq, Int.reduceLT, Int.reduceLE, Int.reduceAdd, h5], by simp only [go_sem, Nat.reduceBEq, Nat.reduceLeDiff, Nat.reduceEqDiff, Nat.reduceSub, Nat.reduceAdd, Int.reduceEq, Int.reduceLT, Int.reduceLE, Int.reduceAdd], by simp only [go_sem, Nat.reduceBEq, Nat.reduceLeDiff, Nat.reduceEqDiff, Nat.reduceSub, Nat.reduceAdd, Int.reduceEq, Int.reduceLT, Int.reduceLE, Int.reduceAdd, h8], by simp only [go_sem, Nat.reduceBEq, Nat.reduceLeDiff, Nat.reduceEqDiff, Nat.reduceSub, Nat.reduceAdd, Int.reduceEq, Int.reduceLT, Int.reduceLE, Int.reduceAdd, hg], by simp only [go_sem, Nat.reduceBEq, Nat.reduceLeDiff, Nat.reduceEqDiff, Nat.reduceSub, Nat.reduceAdd, Int.reduceEq, Int.reduceLT, Int.reduceLE, Int.reduceAdd, hm], by simp only [go_sem, Nat.reduceBEq, Nat.reduceLeDiff, Nat.reduceEqDiff, Nat.reduceSub, Nat.reduceAdd, Int.reduceEq, Int.reduceLT, Int.reduceLE, Int.reduceAdd, ho]⟩
        · have hje : j = span isDigit (l.drop a) := by omega
          rw [← hje] at hok hnok
          by_cases hjl : a + j < l.length
          · have hjl' : decide (((a + j : Nat) : Int) < (l.length : Nat)) = true := by simp; omega
            have hnl := span_end (p := isDigit) (l := l.drop a) (by simp; omega)
            rw [← hje] at hnl
            have hen : endsNum ((l.drop a).drop j) = !inWord ((l.drop a).getD j 0).toNat := endsNum_drop (by simp; omega)
            cases hw : inWord ((l.drop a).getD j 0).toNat with
            | true =>
              simp only [go_sem, Nat.reduceBEq, Nat.reduceLeDiff, Nat.reduceEqDiff, Nat.reduceSub, Nat.reduceAdd, Int.reduceEq, Int.reduceLT, Int.reduceLE, Int.reduceAdd, h0, h3, h4, h5, h7, h8, hg, hm, ba_size, hjl', hixj _ hjl, c_rInner, c_rDigit, hnl, hw]
              rw [hnok (by rw [hen, hw]; simp)]; rfl
            | false =>
              by_cases h9 : j ≤ 9
              · have d9 : decide ((9 : Int) < (j : Nat)) = false := by simp; omega
                simp only [go_sem, Nat.reduceBEq, Nat.reduceLeDiff, Nat.reduceEqDiff, Nat.reduceSub, Nat.reduceAdd, Int.reduceEq, Int.reduceLT, Int.reduceLE, Int.reduceAdd, h0, h3, h4, h5, h7, h8, hg, hm, ba_size, hjl', hixj _ hjl, c_rInner, hw, hws, d9, hsl j (by omega), bs1_tok, hap, ho]
                exact ih (l.length - (a + j)) (by omega) _ _ ⟨a + j, acc ++ [⟨1, (l.drop a).take j, a⟩], _, rfl, by omega, by simp; omega, hok h9 (by rw [hen, hw]; rfl), by simp only [go_sem, Nat.reduceBEq, Nat.reduceLeDiff, Nat.reduceEqDiff, Nat.reduceSub, Nat.reduceAdd, Int.reduceEq, Int.reduceLT, Int.reduceLE, Int.reduceAdd, h0], by simp only [go_sem, Nat.reduceBEq, Nat.reduceLeDiff, Nat.reduceEqDiff, Nat.reduceSub, Nat.reduceAdd, Int.reduceEq, Int.reduceLT, Int.reduceLE, Int.reduceAdd, h3], by simp only [go_sem, Nat.reduceBEq, Nat.reduceLeDiff, Nat.reduceEqDiff, Nat.reduceSub, Nat.reduceAdd, Int.reduceEq, Int.reduceLT, Int.reduceLE, Int.reduceAdd, List.map_append, encTok] <;> rfl,
                  by simp only [go_sem, Nat.reduceBEq, Nat.reduceLeDiff, Nat.reduceEqDiff, Nat.reduceSub, Nat.reduceAdd, Int.reduceEq, Int.reduceLT, Int.reduceLE, Int.reduceAdd], by simp only [go_sem, Nat.reduceBEq, Nat.reduceLeDiff, Nat.reduceEqDiff, Nat.reduceSub, Nat.reduceAdd, Int.reduceEq, Int.reduceLT, Int.reduceLE, Int.reduceAdd, hg], by simp only [go_sem, Nat.reduceBEq, Nat.reduceLeDiff, Nat.reduceEqDiff, Nat.reduceSub, Nat.reduceAdd, Int.reduceEq, Int.reduceLT, Int.reduceLE, Int.reduceAdd, hm], by simp only [go_sem, Nat.reduceBEq, Nat.reduceLeDiff, Nat.reduceEqDiff, Nat.reduceSub, Nat.reduceAdd, Int.reduceEq, Int.reduceLT, Int.reduceLE, Int.reduceAdd]⟩
              · have d9 : decide ((9 : Int) < (j : Nat)) = true := by simp; omega
                simp only [go_sem, Nat.reduceBEq, Nat.reduceLeDiff, Nat.reduceEqDiff, Nat.reduceSub, Nat.reduceAdd, Int.reduceEq, Int.reduceLT, Int.reduceLE, Int.reduceAdd, h0, h3, h4, h5, h7, h8, hg, hm, ba_size, hjl', hixj _ hjl, c_rInner, hw, hws, d9]
                rw [hnok (fun hh => h9 hh.1)]; rfl
          · have hjl' : decide (((a + j : Nat) : Int) < (l.length : Nat)) = false := by simp; omega
            have hen : endsNum ((l.drop a).drop j) = true := by rw [List.drop_drop, List.drop_of_length_le (by omega)]; rfl
            by_cases h9 : j ≤ 9
            · have d9 : decide ((9 : Int) < (j : Nat)) = false := by simp; omega
              simp only [go_sem, Nat.reduceBEq, Nat.reduceLeDiff, Nat.reduceEqDiff, Nat.reduceSub, Nat.reduceAdd, Int.reduceEq, Int.reduceLT, Int.reduceLE, Int.reduceAdd, h0, h3, h4, h5, h7, h8, hg, hm, ba_size, hjl', hws, d9, hsl j (by omega), bs1_tok, hap, ho]
              exact ih (l.length - (a + j)) (by omega) _ _ ⟨a + j, acc ++ [⟨1, (l.drop a).take j, a⟩], _, rfl, by omega, by simp; omega, hok h9 hen, by simp only [go_sem, Nat.reduceBEq, Nat.reduceLeDiff, Nat.reduceEqDiff, Nat.reduceSub, Nat.reduceAdd, Int.reduceEq, Int.reduceLT, Int.reduceLE, Int.reduceAdd, h0], by simp only [go_sem, Nat.reduceBEq, Nat.reduceLeDiff, Nat.reduceEqDiff, Nat.reduceSub, Nat.reduceAdd, Int.reduceEq, Int.reduceLT, Int.reduceLE, Int.reduceAdd, h3], by simp only [go_sem, Nat.reduceBEq, Nat.reduceLeDiff, Nat.reduceEqDiff, Nat.reduceSub, Nat.reduceAdd, Int.reduceEq, Int.reduceLT, Int.reduceLE, Int.reduceAdd, List.map_append, encTok] <;> rfl,
                by simp only [go_sem, Nat.reduceBEq, Nat.reduceLeDiff, Nat.reduceEqDiff, Nat.reduceSub, Nat.reduceAdd, Int.reduceEq, Int.reduceLT, Int.reduceLE, Int.reduceAdd], by simp only [go_sem, Nat.reduceBEq, Nat.reduceLeDiff, Nat.reduceEqDiff, Nat.reduceSub, Nat.reduceAdd, Int.reduceEq, Int.reduceLT, Int.reduceLE, Int.reduceAdd, hg], by simp only [go_sem, Nat.reduceBEq, Nat.reduceLeDiff, Nat.reduceEqDiff, Nat.reduceSub, Nat.reduceAdd, Int.reduceEq, Int.reduceLT, Int.reduceLE, Int.reduceAdd, hm], by simp only [go_sem, Nat.reduceBEq, Nat.reduceLeDiff, Nat.reduceEqDiff, Nat.reduceSub, Nat.reduceAdd, Int.reduceEq, Int.reduceLT, Int.reduceLE, Int.reduceAdd]⟩
            · have d9 : decide ((9 : Int) < (j : Nat)) = true := by simp; omega
              simp only [go_sem, Nat.reduceBEq, Nat.reduceLeDiff, Nat.reduceEqDiff, Nat.reduceSub, Nat.reduceAdd, Int.reduceEq, Int.reduceLT, Int.reduceLE, Int.reduceAdd, h0, h3, h4, h5, h7, h8, hg, hm, ba_size, hjl', hws, d9]
              rw [hnok (fun hh => h9 hh.1)]; rfl
      | false =>
      have k5 : cls b.toNat = if isSign b.toNat then 5 else 0 := by
        have k35 : (b.toNat == 35) = false := by simp; omega
        simp [cls, k1, k35, k3, k4]
      cases k6 : isSign b.toNat with
      | true =>
        have c5 : cls b.toNat = 5 := by rw [k5, k6]; rfl
        have hl := lexL_sign (l := l.drop (a + 1)) (at_ := a) c5
        rw [← dc] at hl
        rw [hl, LexR.pre_pre] at hR
        have ht : (l.drop a).take 1 = [b] := by rw [dc]; rfl
        have hsl1 := hsl 1 (by omega)
        rw [ht] at hsl1
        simp only [go_sem, Nat.reduceBEq, Nat.reduceLeDiff, Nat.reduceEqDiff, Nat.reduceSub, Nat.reduceAdd, Int.reduceEq, Int.reduceLT, Int.reduceLE, Int.reduceAdd, h0, h3, h4, h5, hg, hm, ba_size, hlt', hix, c_rBlank, c_rLetter, c_rDigit, c_rSign, k1, d2, k3, k4, k6, hw1, hsl1, bs1_tok, hap, ho]
        exact ih (l.length - (a + 1)) (by omega) _ _ ⟨a + 1, acc ++ [⟨2, [b], a⟩], _, rfl, by omega, by simp; omega, hR, by simp only [go_sem, Nat.reduceBEq, Nat.reduceLeDiff, Nat.reduceEqDiff, Nat.reduceSub, Nat.reduceAdd, Int.reduceEq, Int.reduceLT, Int.reduceLE, Int.reduceAdd, h0], by simp only [go_sem, Nat.reduceBEq, Nat.reduceLeDiff, Nat.reduceEqDiff, Nat.reduceSub, Nat.reduceAdd, Int.reduceEq, Int.reduceLT, Int.reduceLE, Int.reduceAdd, h3],
          by simp only [go_sem, Nat.reduceBEq, Nat.reduceLeDiff, Nat.reduceEqDiff, Nat.reduceSub, Nat.reduceAdd, Int.reduceEq, Int.reduceLT, Int.reduceLE, Int.reduceAdd, List.map_append, encTok] <;> rfl, by simp only [go_sem, Nat.reduceBEq, Nat.reduceLeDiff, Nat.reduceEqDiff, Nat.reduceSub, Nat.reduceAdd, Int.reduceEq, Int.reduceLT, Int.reduceLE, Int.reduceAdd], by simp only [go_sem, Nat.reduceBEq, Nat.reduceLeDiff, Nat.reduceEqDiff, Nat.reduceSub, Nat.reduceAdd, Int.reduceEq, Int.reduceLT, Int.reduceLE, Int.reduceAdd, hg], by simp only [go_sem, Nat.reduceBEq, Nat.reduceLeDiff, Nat.reduceEqDiff, Nat.reduceSub, Nat.reduceAdd, Int.reduceEq, Int.reduceLT, Int.reduceLE, Int.reduceAdd, hm], by simp only [go_sem, Nat.reduceBEq, Nat.reduceLeDiff, Nat.reduceEqDiff, Nat.reduceSub, Nat.reduceAdd, Int.reduceEq, Int.reduceLT, Int.reduceLE, Int.reduceAdd]⟩
      | false =>
        have c6 : cls b.toNat = 0 := by rw [k5, k6]; rfl
        have hl := lexL_other (l := l.drop (a + 1)) (at_ := a) c6
        rw [← dc] at hl
        rw [hl] at hR
        simp only [go_sem, Nat.reduceBEq, Nat.reduceLeDiff, Nat.reduceEqDiff, Nat.reduceSub, Nat.reduceAdd, Int.reduceEq, Int.reduceLT, Int.reduceLE, Int.reduceAdd, h0, h3, h4, h5, hg, hm, ba_size, hlt', hix, c_rBlank, c_rLetter, c_rDigit, c_rSign, k1, d2, k3, k4, k6, hw1]
        rw [← hR]; rfl
    · have hlt' : decide ((a : Int) < (l.length : Nat)) = false := by simp; omega
      rw [List.drop_of_length_le (by omega), lexL_nil] at hR
      simp only [go_sem, Nat.reduceBEq, Nat.reduceLeDiff, Nat.reduceEqDiff, Nat.reduceSub, Nat.reduceAdd, Int.reduceEq, Int.reduceLT, Int.reduceLE, Int.reduceAdd, h0, h3, h4, h5, hg, hm, ba_size, hlt']
      rw [← hR]
      simp [LexR.pre, encLexR, encLex, encFault]
end Go.Proofs.YtghhkbigmmjanaaGreatDoor.VA

/-! La7 -/
namespace Go.Proofs.YtghhkbigmmjanaaGreatDoor.VA
open Go Go.RowKit
set_option linter.unusedSimpArgs false
set_option maxRecDepth 100000

theorem eg_tok : Tryz.prog.eqGuardType Tryz.prog.depth 66 = false := by kernel_rfl
theorem sh_tok : Tryz.prog.stoodInHeld 66 = false := by kernel_rfl
theorem eg_fault : Tryz.prog.eqGuardType Tryz.prog.depth 27 = false := by kernel_rfl
theorem sh_fault : Tryz.prog.stoodInHeld 27 = false := by kernel_rfl
@[go_sem] theorem und_errno : Tryz.prog.underlying 25 = some (.int .i64) := by kernel_rfl
@[go_sem] theorem sz_errno : tSize Tryz.prog 25 = some 1 := by kernel_rfl
@[go_sem] theorem ag_errno : tAgg Tryz.prog 25 = some false := by kernel_rfl
theorem eq_tok (k k' a a' : Int) (t t' : ByteArray) : aEq Tryz.prog 8 66 (.agg [.lit (.int .i64 k), .lit (.string t), .lit (.int .i64 a)]) (.agg [.lit (.int .i64 k'), .lit (.string t'), .lit (.int .i64 a')]) =
    some (decide (k = k') && (decide (t = t') && decide (a = a'))) := by
  simp only [aEq, Tryz.underlying66, sh_tok, if_true, aEqs, go_sem]
  by_cases h1 : k = k' <;> by_cases h2 : t = t' <;> by_cases h3 : a = a' <;> simp [h1, h2, h3, aEqs, aEq, go_sem, strEq_decide]
theorem eq_fault (k k' a a' : Int) : aEq Tryz.prog 8 27 (.agg [.lit (.int .i64 k), .lit (.int .i64 a)]) (.agg [.lit (.int .i64 k'), .lit (.int .i64 a')]) =
    some (decide (k = k') && decide (a = a')) := by
  simp only [aEq, Tryz.underlying27, sh_fault, if_true, aEqs, go_sem]
  by_cases h1 : k = k' <;> by_cases h3 : a = a' <;> simp [h1, h3, aEqs, aEq, go_sem]
@[go_sem] theorem bin_netok (k k' a a' : Int) (t t' : ByteArray) : aBin Tryz.prog .neq 66 (.agg [.lit (.int .i64 k), .lit (.string t), .lit (.int .i64 a)]) (.agg [.lit (.int .i64 k'), .lit (.string t'), .lit (.int .i64 a')]) =
    some (.lit (.bool (!(decide (k = k') && (decide (t = t') && decide (a = a')))))) := by
  simp only [aBin, eg_tok, if_true, eq_tok]
@[go_sem] theorem bin_eqfault (k k' a a' : Int) : aBin Tryz.prog .eql 27 (.agg [.lit (.int .i64 k), .lit (.int .i64 a)]) (.agg [.lit (.int .i64 k'), .lit (.int .i64 a')]) =
    some (.lit (.bool (decide (k = k') && decide (a = a')))) := by
  simp only [aBin, eg_fault, if_true, eq_fault]
end Go.Proofs.YtghhkbigmmjanaaGreatDoor.VA

/-! La8 -/
namespace Go.Proofs.YtghhkbigmmjanaaGreatDoor.VA
open Go Go.RowKit
attribute [local go_sem] Nat.add_eq_left Nat.left_eq_add true_and and_true ite_true if_false Int.cast_ofNat_Int eq_self Nat.add_assoc Option.some.injEq decide_true decide_false Bool.not_true Bool.not_false List.size_toArray List.length_cons List.length_nil
set_option linter.unusedSimpArgs false
set_option maxRecDepth 100000

@[go_sem] theorem bxx_eq (v : AV) (id : Nat) : bxx v id = if v.cells.all AV.one = true then some (.val (.ptr id 0) [.box id v.cells] []) else none := rfl
@[go_sem] theorem iad_cons0 (t : TypeId) (n b : Nat) (o : Own) (e : List AV) (es : List (List AV)) : iad (some (t, n, b)) (.sl o (e :: es)) (some 0) = if e.length = n then some (.ep e) else none := rfl
@[go_sem] theorem iad_consS (t : TypeId) (n b i : Nat) (o : Own) (e : List AV) (es : List (List AV)) : iad (some (t, n, b)) (.sl o (e :: es)) (some (i + 1)) = iad (some (t, n, b)) (.sl o es) (some i) := rfl
theorem iad_encTok {t : TypeId} {bs : Nat} {o : Own} (x : Tok) (l : List Tok) : iad (some (t, 3, bs)) (.sl o ((x :: l).map encTok)) (some 0) = some (.ep (encTok x)) := rfl
set_option maxRecDepth 20000 in
theorem c_right (k a : Int) (t : List UInt8) (H : Heap) : calls Tryz.prog cfg 125 [.agg [.lit (.int .i64 k), .lit (.string (ba t)), .lit (.int .i64 a)]] H = some (.ret (.lit (.bool (rightB k t))) H) := by
  refine calls_pure (fn := Tryz.f125) rfl rfl rfl rfl rfl ?_ H
  have rs : Tryz.f125.results.toList = [.tmp 2] := rfl
  generalize hr : rightB k t = r
  unfold rightB at hr
  simp only [go_sem, Nat.reduceBEq, Nat.reduceLeDiff, Nat.reduceEqDiff, Nat.reduceSub, Nat.reduceAdd, Int.reduceEq, Int.reduceLT, Int.reduceLE, Int.reduceAdd, rs, c_lex]
  generalize lexAns t = A at hr
  obtain ⟨ts, cd, p⟩ := A
  simp only [go_sem, Nat.reduceBEq, Nat.reduceLeDiff, Nat.reduceEqDiff, Nat.reduceSub, Nat.reduceAdd, Int.reduceEq, Int.reduceLT, Int.reduceLE, Int.reduceAdd, encLex, encFault]
  refine W_draw [(12, 14), (21, 23)] (by kernel_rfl) ?_
  by_cases hc : cd = 0
  · subst hc
    have dc : decide ((0 : Int) = 0) = true := rfl
    cases ts with
    | nil =>
      have hr' : r = false := hr.symm
      simp only [go_sem, Nat.reduceBEq, Nat.reduceLeDiff, Nat.reduceEqDiff, Nat.reduceSub, Nat.reduceAdd, Int.reduceEq, Int.reduceLT, Int.reduceLE, Int.reduceAdd, dc, List.map_nil, List.length_nil, hr']
    | cons x ts =>
      cases ts with
      | nil =>
        simp only at hr
        have d1 : decide ((1 : Int) = 1) = true := rfl
        by_cases h1 : (x.kind : Int) = k
        · have e1 : decide (((x.kind : Nat) : Int) = k) = true := by simp [h1]
          have e2 : decide (ba x.text = ba t) = decide (x.text = t) := by simp [ba_inj]
          have hr' : r = decide (x.text = t) := by rw [← hr, e1, Bool.true_and]
          simp only [go_sem, Nat.reduceBEq, Nat.reduceLeDiff, Nat.reduceEqDiff, Nat.reduceSub, Nat.reduceAdd, Int.reduceEq, Int.reduceLT, Int.reduceLE, Int.reduceAdd, dc, d1, List.map_cons, List.map_nil, iad_encTok, encTok, e1, e2, hr']
        · have e1 : decide (((x.kind : Nat) : Int) = k) = false := by simp [h1]
          have hr' : r = false := by rw [← hr, e1, Bool.false_and]
          simp only [go_sem, Nat.reduceBEq, Nat.reduceLeDiff, Nat.reduceEqDiff, Nat.reduceSub, Nat.reduceAdd, Int.reduceEq, Int.reduceLT, Int.reduceLE, Int.reduceAdd, dc, d1, List.map_cons, List.map_nil, iad_encTok, encTok, e1, hr']
      | cons y ts =>
        have hr' : r = false := hr.symm
        have d1 : decide (((ts.length + 1 + 1 : Nat) : Int) = 1) = false := by simp; omega
        simp only [go_sem, Nat.reduceBEq, Nat.reduceLeDiff, Nat.reduceEqDiff, Nat.reduceSub, Nat.reduceAdd, Int.reduceEq, Int.reduceLT, Int.reduceLE, Int.reduceAdd, dc, d1, List.map_cons, List.length_map, hr']
  · have dc : decide (((cd : Nat) : Int) = 0) = false := by simp; omega
    have hr' : r = false := by
      rw [← hr]
      split
      · rename_i heq; simp at heq; exact absurd heq.2.1 hc
      · rfl
    simp only [go_sem, Nat.reduceBEq, Nat.reduceLeDiff, Nat.reduceEqDiff, Nat.reduceSub, Nat.reduceAdd, Int.reduceEq, Int.reduceLT, Int.reduceLE, Int.reduceAdd, dc, hr']
set_option maxRecDepth 20000 in
theorem c_may (l : List GTok) (hlen : l.length ≤ 9223372036854775806) (o : Own) (H : Heap) : calls Tryz.prog cfg 121 [.sl o (l.map encG)] H = some (.ret (.lit (.bool (l.all rightG))) H) := by
  refine calls_pure (fn := Tryz.f121) rfl rfl rfl rfl rfl ?_ H
  have rs : Tryz.f121.results.toList = [.tmp 2] := rfl
  generalize hr : l.all rightG = r
  simp only [go_sem, Nat.reduceBEq, Nat.reduceLeDiff, Nat.reduceEqDiff, Nat.reduceSub, Nat.reduceAdd, Int.reduceEq, Int.reduceLT, Int.reduceLE, Int.reduceAdd, rs, List.length_map]
  refine W_loop_ind (fun k e H => ∃ i : Nat, k = l.length - i ∧ i ≤ l.length ∧ (l.drop i).all rightG = r ∧ gget .bad e 5 = .sl .sh (l.map encG) ∧ gget .bad e 6 = .lit (.int .i64 (l.length : Nat)) ∧ gget .bad e 7 = .lit (.int .i64 (i : Nat)))
    l.length ⟨0, rfl, by omega, hr, by simp only [go_sem, Nat.reduceBEq, Nat.reduceLeDiff, Nat.reduceEqDiff, Nat.reduceSub, Nat.reduceAdd, Int.reduceEq, Int.reduceLT, Int.reduceLE, Int.reduceAdd], by simp only [go_sem, Nat.reduceBEq, Nat.reduceLeDiff, Nat.reduceEqDiff, Nat.reduceSub, Nat.reduceAdd, Int.reduceEq, Int.reduceLT, Int.reduceLE, Int.reduceAdd], by simp only [go_sem, Nat.reduceBEq, Nat.reduceLeDiff, Nat.reduceEqDiff, Nat.reduceSub, Nat.reduceAdd, Int.reduceEq, Int.reduceLT, Int.reduceLE, Int.reduceAdd]⟩ ?_
  rintro k ih e H ⟨i, rfl, hle, hR, h5, h6, h7⟩
  by_cases hlt : i < l.length
  · have hlt' : decide ((i : Int) < (l.length : Nat)) = true := by simp; omega
    rw [drop_cons' default hlt, List.all_cons] at hR
    have ha := iad_encG (t := 66) (bs := 32) (o := .sh) hlt
    generalize l.getD i default = x at hR ha
    have hw1 := wrap1 (show i + 1 ≤ 9223372036854775807 by omega)
    cases hx : rightG x with
    | true =>
      rw [hx, Bool.true_and] at hR
      have hx' : rightB x.kind x.text = true := hx
      simp only [go_sem, Nat.reduceBEq, Nat.reduceLeDiff, Nat.reduceEqDiff, Nat.reduceSub, Nat.reduceAdd, Int.reduceEq, Int.reduceLT, Int.reduceLE, Int.reduceAdd, h5, h6, h7, hlt', ha, encG, c_right, hx', hw1]
      exact ih (l.length - (i + 1)) (by omega) _ _ ⟨i + 1, rfl, by omega, hR, by simp only [go_sem, Nat.reduceBEq, Nat.reduceLeDiff, Nat.reduceEqDiff, Nat.reduceSub, Nat.reduceAdd, Int.reduceEq, Int.reduceLT, Int.reduceLE, Int.reduceAdd, h5], by simp only [go_sem, Nat.reduceBEq, Nat.reduceLeDiff, Nat.reduceEqDiff, Nat.reduceSub, Nat.reduceAdd, Int.reduceEq, Int.reduceLT, Int.reduceLE, Int.reduceAdd, h6], by simp only [go_sem, Nat.reduceBEq, Nat.reduceLeDiff, Nat.reduceEqDiff, Nat.reduceSub, Nat.reduceAdd, Int.reduceEq, Int.reduceLT, Int.reduceLE, Int.reduceAdd]⟩
    | false =>
      rw [hx, Bool.false_and] at hR
      have hx' : rightB x.kind x.text = false := hx
      simp only [go_sem, Nat.reduceBEq, Nat.reduceLeDiff, Nat.reduceEqDiff, Nat.reduceSub, Nat.reduceAdd, Int.reduceEq, Int.reduceLT, Int.reduceLE, Int.reduceAdd, h5, h6, h7, hlt', ha, encG, c_right, hx', ← hR]
  · have hlt' : decide ((i : Int) < (l.length : Nat)) = false := by simp; omega
    rw [List.drop_of_length_le (by omega)] at hR
    have hR' : r = true := hR.symm
    simp only [go_sem, Nat.reduceBEq, Nat.reduceLeDiff, Nat.reduceEqDiff, Nat.reduceSub, Nat.reduceAdd, Int.reduceEq, Int.reduceLT, Int.reduceLE, Int.reduceAdd, h5, h6, h7, hlt', hR']
end Go.Proofs.YtghhkbigmmjanaaGreatDoor.VA

/-! Pf -/
namespace Go.Proofs.YtghhkbigmmjanaaGreatDoor.VA
open Go Go.RowKit
set_option linter.unusedSimpArgs false
set_option maxRecDepth 100000

@[go_sem] theorem fl_st0 : tField Tryz.prog 80 0 = some (0, 1, false) := by kernel_rfl
@[go_sem] theorem fl_st1 : tField Tryz.prog 80 1 = some (1, 1, false) := by kernel_rfl
@[go_sem] theorem fl_st2 : tField Tryz.prog 80 2 = some (2, 1, false) := by kernel_rfl
@[go_sem] theorem fl_st3 : tField Tryz.prog 80 3 = some (3, 1, false) := by kernel_rfl
@[go_sem] theorem fl_st4 : tField Tryz.prog 80 4 = some (4, 2, true) := by kernel_rfl
@[go_sem] theorem bl_st : tBuild Tryz.prog 80 = some ([(0, 1), (1, 1), (2, 1), (3, 1), (4, 2)], [.sl .nil [], .lit (.int .i64 0), .lit (.int .i64 0), .lit (.int .i64 0), .lit (.int .i64 0), .lit (.int .i64 0)]) := by kernel_rfl
@[go_sem] theorem zr_st : tZero Tryz.prog 80 = some [.sl .nil [], .lit (.int .i64 0), .lit (.int .i64 0), .lit (.int .i64 0), .lit (.int .i64 0), .lit (.int .i64 0)] := by kernel_rfl
@[go_sem] theorem sz_st : tSize Tryz.prog 80 = some 6 := by kernel_rfl
@[go_sem] theorem ag_st : tAgg Tryz.prog 80 = some true := by kernel_rfl
@[go_sem] theorem fl_opd0 : tField Tryz.prog 50 0 = some (0, 1, false) := by kernel_rfl
@[go_sem] theorem fl_opd1 : tField Tryz.prog 50 1 = some (1, 1, false) := by kernel_rfl
@[go_sem] theorem fl_opd2 : tField Tryz.prog 50 2 = some (2, 1, false) := by kernel_rfl
@[go_sem] theorem bl_opd : tBuild Tryz.prog 50 = some ([(0, 1), (1, 1), (2, 1)], [.lit (.int .i64 0), .lit (.int .i64 0), .lit (.string ⟨#[]⟩)]) := by kernel_rfl
@[go_sem] theorem zr_opd : tZero Tryz.prog 50 = some [.lit (.int .i64 0), .lit (.int .i64 0), .lit (.string ⟨#[]⟩)] := by kernel_rfl
@[go_sem] theorem sz_opd : tSize Tryz.prog 50 = some 3 := by kernel_rfl
@[go_sem] theorem ag_opd : tAgg Tryz.prog 50 = some true := by kernel_rfl
@[go_sem] theorem fl_stm0 : tField Tryz.prog 40 0 = some (0, 1, false) := by kernel_rfl
@[go_sem] theorem fl_stm1 : tField Tryz.prog 40 1 = some (1, 1, false) := by kernel_rfl
@[go_sem] theorem fl_stm2 : tField Tryz.prog 40 2 = some (2, 1, false) := by kernel_rfl
@[go_sem] theorem fl_stm3 : tField Tryz.prog 40 3 = some (3, 1, false) := by kernel_rfl
@[go_sem] theorem fl_stm4 : tField Tryz.prog 40 4 = some (4, 1, false) := by kernel_rfl
@[go_sem] theorem fl_stm5 : tField Tryz.prog 40 5 = some (5, 1, false) := by kernel_rfl
@[go_sem] theorem fl_stm6 : tField Tryz.prog 40 6 = some (6, 1, false) := by kernel_rfl
@[go_sem] theorem fl_stm7 : tField Tryz.prog 40 7 = some (7, 1, false) := by kernel_rfl
@[go_sem] theorem bl_stm : tBuild Tryz.prog 40 = some ([(0, 1), (1, 1), (2, 1), (3, 1), (4, 1), (5, 1), (6, 1), (7, 1)], [.lit (.int .i64 0), .lit (.string ⟨#[]⟩), .lit (.string ⟨#[]⟩), .lit (.string ⟨#[]⟩), .sl .nil [], .sl .nil [], .sl .nil [], .sl .nil []]) := by kernel_rfl
@[go_sem] theorem zr_stm : tZero Tryz.prog 40 = some [.lit (.int .i64 0), .lit (.string ⟨#[]⟩), .lit (.string ⟨#[]⟩), .lit (.string ⟨#[]⟩), .sl .nil [], .sl .nil [], .sl .nil [], .sl .nil []] := by kernel_rfl
@[go_sem] theorem sz_stm : tSize Tryz.prog 40 = some 8 := by kernel_rfl
@[go_sem] theorem ag_stm : tAgg Tryz.prog 40 = some true := by kernel_rfl
@[go_sem] theorem fl_fun0 : tField Tryz.prog 42 0 = some (0, 1, false) := by kernel_rfl
@[go_sem] theorem fl_fun1 : tField Tryz.prog 42 1 = some (1, 1, false) := by kernel_rfl
@[go_sem] theorem fl_fun2 : tField Tryz.prog 42 2 = some (2, 1, false) := by kernel_rfl
@[go_sem] theorem bl_fun : tBuild Tryz.prog 42 = some ([(0, 1), (1, 1), (2, 1)], [.lit (.string ⟨#[]⟩), .sl .nil [], .sl .nil []]) := by kernel_rfl
@[go_sem] theorem zr_fun : tZero Tryz.prog 42 = some [.lit (.string ⟨#[]⟩), .sl .nil [], .sl .nil []] := by kernel_rfl
@[go_sem] theorem sz_fun : tSize Tryz.prog 42 = some 3 := by kernel_rfl
@[go_sem] theorem ag_fun : tAgg Tryz.prog 42 = some true := by kernel_rfl
@[go_sem] theorem fl_prg0 : tField Tryz.prog 24 0 = some (0, 1, false) := by kernel_rfl
@[go_sem] theorem bl_prg : tBuild Tryz.prog 24 = some ([(0, 1)], [.sl .nil []]) := by kernel_rfl
@[go_sem] theorem zr_prg : tZero Tryz.prog 24 = some [.sl .nil []] := by kernel_rfl
@[go_sem] theorem sz_prg : tSize Tryz.prog 24 = some 1 := by kernel_rfl
@[go_sem] theorem ag_prg : tAgg Tryz.prog 24 = some true := by kernel_rfl
@[go_sem] theorem fl_par0 : tField Tryz.prog 77 0 = some (0, 1, false) := by kernel_rfl
@[go_sem] theorem fl_par1 : tField Tryz.prog 77 1 = some (1, 1, false) := by kernel_rfl
@[go_sem] theorem fl_par2 : tField Tryz.prog 77 2 = some (2, 1, false) := by kernel_rfl
@[go_sem] theorem fl_par3 : tField Tryz.prog 77 3 = some (3, 1, false) := by kernel_rfl
@[go_sem] theorem bl_par : tBuild Tryz.prog 77 = some ([(0, 1), (1, 1), (2, 1), (3, 1)], [.sl .nil [], .lit (.int .i64 0), .lit (.int .i64 0), .lit (.int .i64 0)]) := by kernel_rfl
@[go_sem] theorem zr_par : tZero Tryz.prog 77 = some [.sl .nil [], .lit (.int .i64 0), .lit (.int .i64 0), .lit (.int .i64 0)] := by kernel_rfl
@[go_sem] theorem sz_par : tSize Tryz.prog 77 = some 4 := by kernel_rfl
@[go_sem] theorem ag_par : tAgg Tryz.prog 77 = some true := by kernel_rfl
@[go_sem] theorem fl_tro0 : tField Tryz.prog 73 0 = some (0, 2, true) := by kernel_rfl
@[go_sem] theorem bl_tro : tBuild Tryz.prog 73 = some ([(0, 2)], [.lit (.int .i64 0), .lit (.int .i64 0)]) := by kernel_rfl
@[go_sem] theorem zr_tro : tZero Tryz.prog 73 = some [.lit (.int .i64 0), .lit (.int .i64 0)] := by kernel_rfl
@[go_sem] theorem sz_tro : tSize Tryz.prog 73 = some 2 := by kernel_rfl
@[go_sem] theorem ag_tro : tAgg Tryz.prog 73 = some true := by kernel_rfl
@[go_sem] theorem el_sOpd : tElem Tryz.prog 36 = some (50, 3, 32) := by kernel_rfl
@[go_sem] theorem zo_sOpd : zeroOk Tryz.prog 50 3 = true := by kernel_rfl
@[go_sem] theorem el_sStm : tElem Tryz.prog 38 = some (40, 8, 152) := by kernel_rfl
@[go_sem] theorem zo_sStm : zeroOk Tryz.prog 40 8 = true := by kernel_rfl
@[go_sem] theorem el_sFun : tElem Tryz.prog 22 = some (42, 3, 64) := by kernel_rfl
@[go_sem] theorem zo_sFun : zeroOk Tryz.prog 42 3 = true := by kernel_rfl
@[go_sem] theorem sz_sTok : tSize Tryz.prog 45 = some 1 := by kernel_rfl
@[go_sem] theorem ag_sTok : tAgg Tryz.prog 45 = some false := by kernel_rfl
@[go_sem] theorem zr_sTok : tZero Tryz.prog 45 = some [.sl .nil []] := by kernel_rfl
@[go_sem] theorem sz_sStr : tSize Tryz.prog 37 = some 1 := by kernel_rfl
@[go_sem] theorem ag_sStr : tAgg Tryz.prog 37 = some false := by kernel_rfl
@[go_sem] theorem zr_sStr : tZero Tryz.prog 37 = some [.sl .nil []] := by kernel_rfl
@[go_sem] theorem sz_sOpd : tSize Tryz.prog 36 = some 1 := by kernel_rfl
@[go_sem] theorem ag_sOpd : tAgg Tryz.prog 36 = some false := by kernel_rfl
@[go_sem] theorem zr_sOpd : tZero Tryz.prog 36 = some [.sl .nil []] := by kernel_rfl
@[go_sem] theorem sz_sStm : tSize Tryz.prog 38 = some 1 := by kernel_rfl
@[go_sem] theorem ag_sStm : tAgg Tryz.prog 38 = some false := by kernel_rfl
@[go_sem] theorem zr_sStm : tZero Tryz.prog 38 = some [.sl .nil []] := by kernel_rfl
@[go_sem] theorem sz_sFun : tSize Tryz.prog 22 = some 1 := by kernel_rfl
@[go_sem] theorem ag_sFun : tAgg Tryz.prog 22 = some false := by kernel_rfl
@[go_sem] theorem zr_sFun : tZero Tryz.prog 22 = some [.sl .nil []] := by kernel_rfl
@[go_sem] theorem sz_pPar : tSize Tryz.prog 75 = some 1 := by kernel_rfl
@[go_sem] theorem ag_pPar : tAgg Tryz.prog 75 = some false := by kernel_rfl
@[go_sem] theorem zr_pPar : tZero Tryz.prog 75 = some [.lit (.pointer none)] := by kernel_rfl

/-! ### cells of a list, by place -/
def fcode (s : PS) : Nat := match s.f with | none => 0 | some (c, _) => c + 20
def fat (s : PS) : Int := match s.f with | none => 0 | some (_, a) => a
/-- The reference's state. -/
def cS (l : List GTok) (en : Int) (s : PS) : List AV :=
  [.sl .sh (l.map encG), .lit (.int .i64 (s.at_ : Nat)), .lit (.int .i64 en), .lit (.int .i64 (s.cnt : Nat)), .lit (.int .i64 (fcode s : Nat)), .lit (.int .i64 (fat s))]
/-- The parser's. -/
def cP (l : List GTok) (en : Int) (s : PS) : List AV := [.sl .sh (l.map encG), .lit (.int .i64 (s.at_ : Nat)), .lit (.int .i64 en), .lit (.int .i64 (s.cnt : Nat))]
section
variable {l : List GTok} {en : Int} (s : PS)
@[go_sem] theorem cS_len : (cS l en s).length = 6 := rfl
@[go_sem] theorem cS_one : (cS l en s).all AV.one = true := rfl
@[go_sem] theorem cS_take : (cS l en s).take 6 = cS l en s := rfl
@[go_sem] theorem cS_drop : (cS l en s).drop 6 = [] := rfl
@[go_sem] theorem cS_app : cS l en s ++ [] = cS l en s := rfl
@[go_sem] theorem cS_san : sanL (cS l en s) = cS l en s := by simp only [cS, go_sem]
@[go_sem] theorem cS_0 : (cS l en s)[0]? = some (.sl .sh (l.map encG)) := rfl
@[go_sem] theorem cS_1 : (cS l en s)[1]? = some (.lit (.int .i64 (s.at_ : Nat))) := rfl
@[go_sem] theorem cS_2 : (cS l en s)[2]? = some (.lit (.int .i64 en)) := rfl
@[go_sem] theorem cS_3 : (cS l en s)[3]? = some (.lit (.int .i64 (s.cnt : Nat))) := rfl
@[go_sem] theorem cS_4 : (cS l en s)[4]? = some (.lit (.int .i64 (fcode s : Nat))) := rfl
@[go_sem] theorem cS_F : ((cS l en s).drop 4).take 2 = [.lit (.int .i64 (fcode s : Nat)), .lit (.int .i64 (fat s))] := rfl
/-- One token taken. -/
@[go_sem] theorem cS_adv : (cS l en s).take 1 ++ .lit (.int .i64 ((s.at_ + 1 : Nat) : Int)) :: (cS l en s).drop 2 = cS l en s.adv := rfl
@[go_sem] theorem cS_count : (cS l en s).take 3 ++ .lit (.int .i64 ((s.cnt + 1 : Nat) : Int)) :: (cS l en s).drop 4 = cS l en s.count := rfl
@[go_sem] theorem cP_len : (cP l en s).length = 4 := rfl
@[go_sem] theorem cP_one : (cP l en s).all AV.one = true := rfl
@[go_sem] theorem cP_take : (cP l en s).take 4 = cP l en s := rfl
@[go_sem] theorem cP_0 : (cP l en s)[0]? = some (.sl .sh (l.map encG)) := rfl
@[go_sem] theorem cP_1 : (cP l en s)[1]? = some (.lit (.int .i64 (s.at_ : Nat))) := rfl
@[go_sem] theorem cP_2 : (cP l en s)[2]? = some (.lit (.int .i64 en)) := rfl
@[go_sem] theorem cP_3 : (cP l en s)[3]? = some (.lit (.int .i64 (s.cnt : Nat))) := rfl
@[go_sem] theorem cP_adv : (cP l en s).take 1 ++ .lit (.int .i64 ((s.at_ + 1 : Nat) : Int)) :: (cP l en s).drop 2 = cP l en s.adv := rfl
@[go_sem] theorem cP_count : (cP l en s).take 3 ++ .lit (.int .i64 ((s.cnt + 1 : Nat) : Int)) :: (cP l en s).drop 4 = cP l en s.count := rfl
end
@[go_sem] theorem eO_len (o : Opd) : (encOpd o).length = 3 := rfl
@[go_sem] theorem eO_one (o : Opd) : (encOpd o).all AV.one = true := rfl
@[go_sem] theorem eO_take (o : Opd) : (encOpd o).take 3 = encOpd o := rfl
@[go_sem] theorem eO_drop (o : Opd) : (encOpd o).drop 3 = [] := rfl
@[go_sem] theorem eO_app (o : Opd) : encOpd o ++ [] = encOpd o := rfl
@[go_sem] theorem eO_0 (o : Opd) : (encOpd o)[0]? = some (.lit (.int .i64 o.kind)) := rfl
@[go_sem] theorem eO_2 (o : Opd) : (encOpd o)[2]? = some (.lit (.string (ba o.name))) := rfl
@[go_sem] theorem eM_len (s : GStmt) : (encStmt s).length = 8 := by cases s; simp [encStmt]
@[go_sem] theorem eM_one (s : GStmt) : (encStmt s).all AV.one = true := by cases s; simp [encStmt, AV.one, Value.oneCell']
@[go_sem] theorem eM_take (s : GStmt) : (encStmt s).take 8 = encStmt s := by cases s; simp [encStmt]
@[go_sem] theorem eM_drop (s : GStmt) : (encStmt s).drop 8 = [] := by cases s; simp [encStmt]
@[go_sem] theorem eM_app (s : GStmt) : encStmt s ++ [] = encStmt s := by simp
/-- The variable set. -/
@[go_sem] theorem eM_setX (s : GStmt) (x : List UInt8) : (encStmt s).take 1 ++ .lit (.string (ba x)) :: (encStmt s).drop 2 = encStmt (s.setX x) := by cases s; simp [encStmt, GStmt.setX]
@[go_sem] theorem eF_len (f : GFunc) : (encFunc f).length = 3 := rfl
@[go_sem] theorem eF_one (f : GFunc) : (encFunc f).all AV.one = true := rfl
@[go_sem] theorem eF_take (f : GFunc) : (encFunc f).take 3 = encFunc f := rfl
@[go_sem] theorem eF_drop (f : GFunc) : (encFunc f).drop 3 = [] := rfl
@[go_sem] theorem eF_app (f : GFunc) : encFunc f ++ [] = encFunc f := rfl
theorem bs1_opd (o : Opd) : aBuildSlice Tryz.prog 36 1 [(0, .agg (encOpd o))] = some (.sl .ex [encOpd o]) := build1 el_sOpd (by decide) zr_opd rfl rfl _ rfl rfl
theorem bs1_stm (s : GStmt) : aBuildSlice Tryz.prog 38 1 [(0, .agg (encStmt s))] = some (.sl .ex [encStmt s]) := build1 el_sStm (by decide) zr_stm rfl rfl _ (eM_len s) (eM_one s)
theorem bs1_fun (f : GFunc) : aBuildSlice Tryz.prog 22 1 [(0, .agg (encFunc f))] = some (.sl .ex [encFunc f]) := build1 el_sFun (by decide) zr_fun rfl rfl _ rfl rfl
theorem bs1_str (t : List UInt8) : aBuildSlice Tryz.prog 37 1 [(0, .lit (.string (ba t)))] = some (.sl .ex [encStr t]) := build1 (z := [.lit (.string ⟨#[]⟩)]) el_str (by decide) (by kernel_rfl) rfl rfl _ rfl rfl
attribute [go_sem] bs1_opd bs1_stm bs1_fun bs1_str
end Go.Proofs.YtghhkbigmmjanaaGreatDoor.VA

/-! Lp0 -/
namespace Go.Proofs.YtghhkbigmmjanaaGreatDoor.VA
open Go Go.RowKit
set_option linter.unusedSimpArgs false

theorem lexF_len : ∀ (n : Nat) (l : List UInt8) (a : Nat) (ts : List Tok), lexF n l a = .ok ts → ts.length ≤ l.length := by
  intro n
  induction n with
  | zero => intro l a ts h; simp [lexF] at h
  | succ n ih =>
    intro l a ts h
    cases l with
    | nil => simp [lexF] at h; subst h; simp
    | cons b l =>
      have pre : ∀ (x : Tok) (r : LexR) (ts : List Tok), LexR.pre [x] r = .ok ts → ∃ ts', r = .ok ts' ∧ ts.length = ts'.length + 1 := by
        intro x r ts h
        cases r with
        | ok l => simp [LexR.pre] at h; subst h; exact ⟨l, rfl, by simp⟩
        | err a => simp [LexR.pre] at h
      simp only [lexF] at h
      split at h
      · have := ih _ _ _ h; simp; omega
      · have := ih _ _ _ h; simp at this ⊢; omega
      · rename_i hc
        obtain ⟨ts', h1, h2⟩ := pre _ _ _ h
        have := ih _ _ _ h1
        rw [span_pos (cls3 hc)] at this
        simp at this ⊢; omega
      · rename_i hc
        split at h
        · obtain ⟨ts', h1, h2⟩ := pre _ _ _ h
          have := ih _ _ _ h1
          rw [span_pos (cls4 hc)] at this
          simp at this ⊢; omega
        · cases h
      · obtain ⟨ts', h1, h2⟩ := pre _ _ _ h
        have := ih _ _ _ h1
        simp; omega
      · cases h
theorem lexAns_len (l : List UInt8) : (lexAns l).1.length ≤ 65536 := by
  unfold lexAns
  split
  · simp
  · split
    · rename_i h1 ts h
      have := lexF_len _ _ _ _ h
      simp; omega
    · simp
end Go.Proofs.YtghhkbigmmjanaaGreatDoor.VA

/-! Lp1 -/
namespace Go.Proofs.YtghhkbigmmjanaaGreatDoor.VA
open Go Go.RowKit
set_option linter.unusedSimpArgs false

def stops (p : Nat → Bool) (rest : List UInt8) : Prop :=
  match rest with
  | [] => True
  | c :: _ => p c.toNat = false
theorem span_app {p : Nat → Bool} {rest : List UInt8} (h : stops p rest) : ∀ l, span p (l ++ rest) = span p l
  | [] => by
    cases rest with
    | nil => rfl
    | cons c r => rw [List.nil_append, span_cons, span_nil, if_neg (by rw [show p c.toNat = false from h]; simp)]
  | b :: l => by
    rw [List.cons_append, span_cons, span_cons, span_app h l]
theorem stops_digit {rest : List UInt8} (h : stops inWord rest) : stops isDigit rest := by
  cases rest with
  | nil => trivial
  | cons c r =>
    have h' : inWord c.toNat = false := h
    show isDigit c.toNat = false
    cases hd : isDigit c.toNat with
    | false => rfl
    | true => rw [digit_word hd] at h'; cases h'
theorem stops_ends {rest : List UInt8} (h : stops inWord rest) : endsNum rest = true := by
  cases rest with
  | nil => rfl
  | cons c r => have h' : inWord c.toNat = false := h; simp [endsNum, h']
def tokOk (k : Nat) (t : List UInt8) : Prop :=
  (k = 0 ∧ ∃ b l, t = b :: l ∧ cls b.toNat = 3 ∧ span inWord t = t.length) ∨
  (k = 1 ∧ ∃ b l, t = b :: l ∧ cls b.toNat = 4 ∧ span isDigit t = t.length ∧ t.length ≤ 9) ∨
  (k = 2 ∧ ∃ b, t = [b] ∧ cls b.toNat = 5)
theorem lexL_tok {k : Nat} {t rest : List UInt8} {a : Nat} (h : tokOk k t) (hr : stops inWord rest) : lexL (t ++ rest) a = LexR.pre [⟨k, t, a⟩] (lexL rest (a + t.length)) := by
  rcases h with ⟨rfl, b, l, rfl, hc, hs⟩ | ⟨rfl, b, l, rfl, hc, hs, h9⟩ | ⟨rfl, b, rfl, hc⟩
  · rw [List.cons_append, lexL_word hc, ← List.cons_append, span_app hr, hs, List.take_left' rfl, List.drop_left' rfl]
  · have hs' := span_app (stops_digit hr) (b :: l)
    rw [hs] at hs'
    rw [List.cons_append, lexL_num hc, ← List.cons_append, hs', List.take_left' rfl, List.drop_left' rfl]
    · rw [← List.cons_append, hs']; exact h9
    · rw [← List.cons_append, hs', List.drop_left' rfl]; exact stops_ends hr
  · exact lexL_sign hc
theorem lexF_text : ∀ (n : Nat) (l : List UInt8) (a : Nat) (ts : List Tok), lexF n l a = .ok ts → ∀ t ∈ ts, t.text.length ≤ l.length := by
  intro n
  induction n with
  | zero => intro l a ts h; simp [lexF] at h
  | succ n ih =>
    intro l a ts h t ht
    cases l with
    | nil => simp [lexF] at h; subst h; simp at ht
    | cons b l =>
      have pre : ∀ (x : Tok) (r : LexR), LexR.pre [x] r = .ok ts → ∃ ts', r = .ok ts' ∧ ts = x :: ts' := by
        intro x r h
        cases r with
        | ok l => simp [LexR.pre] at h; subst h; exact ⟨l, rfl, rfl⟩
        | err a => simp [LexR.pre] at h
      simp only [lexF] at h
      split at h
      · have := ih _ _ _ h t ht; simp; omega
      · have := ih _ _ _ h t ht; simp at this ⊢; omega
      · obtain ⟨ts', h1, rfl⟩ := pre _ _ h
        rcases List.mem_cons.1 ht with rfl | ht
        · simp; omega
        · have := ih _ _ _ h1 t ht; simp at this ⊢; omega
      · split at h
        · obtain ⟨ts', h1, rfl⟩ := pre _ _ h
          rcases List.mem_cons.1 ht with rfl | ht
          · simp; omega
          · have := ih _ _ _ h1 t ht; simp at this ⊢; omega
        · cases h
      · obtain ⟨ts', h1, rfl⟩ := pre _ _ h
        rcases List.mem_cons.1 ht with rfl | ht
        · simp
        · have := ih _ _ _ h1 t ht; simp at this ⊢; omega
      · cases h
theorem lexL_text {l : List UInt8} {a : Nat} {ts : List Tok} (h : lexL l a = .ok ts) : ∀ t ∈ ts, t.text.length ≤ l.length := lexF_text _ _ _ _ h
theorem pre_ok {x : Tok} {r : LexR} {ts : List Tok} (h : LexR.pre [x] r = .ok ts) : ∃ ts', r = .ok ts' ∧ ts = x :: ts' := by
  cases r with
  | ok l => simp [LexR.pre] at h; subst h; exact ⟨l, rfl, rfl⟩
  | err a => simp [LexR.pre] at h
theorem lexL_first {s : List UInt8} {a : Nat} {x : Tok} (h : lexL s a = .ok [x]) (hx : x.text = s) : tokOk x.kind s := by
  cases s with
  | nil => rw [lexL_nil] at h; cases h
  | cons b l =>
    have hc := cls_lt b.toNat
    have short : ∀ {l' : List UInt8} {a' : Nat}, l'.length < (b :: l).length → lexL l' a' = .ok [x] → False := fun hl h => by
      have := lexL_text h x (by simp)
      rw [hx] at this; omega
    by_cases c1 : cls b.toNat = 1
    · rw [lexL_blank c1] at h
      exact (short (by simp) h).elim
    by_cases c2 : cls b.toNat = 2
    · rw [lexL_remark c2] at h
      refine (short ?_ h).elim
      rw [List.length_drop, span_pos (cls2 c2)]; simp; omega
    by_cases c3 : cls b.toNat = 3
    · rw [lexL_word c3] at h
      obtain ⟨ts', h1, h2⟩ := pre_ok h
      obtain ⟨rfl, rfl⟩ := List.cons.inj h2
      refine .inl ⟨rfl, b, l, rfl, c3, ?_⟩
      have := congrArg List.length hx
      have hle := span_le inWord (b :: l)
      simp only [List.length_take] at this
      omega
    by_cases c4 : cls b.toNat = 4
    · by_cases hn : span isDigit (b :: l) ≤ 9 ∧ endsNum ((b :: l).drop (span isDigit (b :: l))) = true
      · rw [lexL_num c4 hn.1 hn.2] at h
        obtain ⟨ts', h1, h2⟩ := pre_ok h
        obtain ⟨rfl, rfl⟩ := List.cons.inj h2
        have := congrArg List.length hx
        have hle := span_le isDigit (b :: l)
        simp only [List.length_take] at this
        exact .inr (.inl ⟨rfl, b, l, rfl, c4, by omega, by omega⟩)
      · rw [lexL_notnum c4 hn] at h; cases h
    by_cases c5 : cls b.toNat = 5
    · rw [lexL_sign c5] at h
      obtain ⟨ts', h1, h2⟩ := pre_ok h
      obtain ⟨rfl, rfl⟩ := List.cons.inj h2
      exact .inr (.inr ⟨rfl, b, hx.symm, c5⟩)
    · rw [lexL_other (by omega)] at h; cases h
theorem right_tok {K : Int} {t : List UInt8} (h : rightB K t = true) : ∃ k : Nat, K = (k : Int) ∧ tokOk k t ∧ t.length ≤ 65536 := by
  unfold rightB lexAns at h
  by_cases hb : 65536 < t.length
  · rw [if_pos hb] at h; cases h
  · rw [if_neg hb] at h
    cases hl : lexL t 0 with
    | err a => rw [hl] at h; cases h
    | ok ts =>
      rw [hl] at h
      simp only at h
      cases ts with
      | nil => cases h
      | cons x ts =>
        cases ts with
        | cons y ts => cases h
        | nil =>
          simp only [Bool.and_eq_true, decide_eq_true_eq] at h
          exact ⟨x.kind, h.1.symm, lexL_first hl h.2, by omega⟩
theorem tok_right {k : Nat} {t : List UInt8} (h : tokOk k t) (hl : t.length ≤ 65536) : rightB (k : Int) t = true := by
  have h1 := lexL_tok (a := 0) (rest := []) h trivial
  rw [List.append_nil, lexL_nil] at h1
  simp only [rightB, lexAns, if_neg (show ¬ 65536 < t.length by omega), h1, LexR.pre]
  simp
theorem word_kind {k : Nat} {t : List UInt8} (h : tokOk k t) (hk : (k : Int) = 0) : tokOk 0 t := by
  have : k = 0 := by omega
  subst this; exact h
/-- LexWords, plain. -/
theorem words_lex {s t : List UInt8} (hs : rightB 0 s = true) (ht : rightB 0 t = true) (hl : s.length ≤ 1000) (hl2 : t.length ≤ 1000) :
    lexAns (s ++ [32] ++ t) = ([⟨0, s, 0⟩, ⟨0, t, s.length + 1⟩], 0, 0) := by
  obtain ⟨k, hk, h1, _⟩ := right_tok hs
  obtain ⟨k', hk', h2, _⟩ := right_tok ht
  have h1 := word_kind h1 hk.symm
  have h2 := word_kind h2 hk'.symm
  have e1 := lexL_tok (a := 0) (rest := [32] ++ t) h1 (by rfl)
  have e2 : lexL ([32] ++ t) (0 + s.length) = lexL t (s.length + 1) := by rw [Nat.zero_add]; exact lexL_blank (by rfl)
  have e3 := lexL_tok (a := s.length + 1) (rest := []) h2 trivial
  rw [List.append_nil, lexL_nil] at e3
  rw [← List.append_assoc] at e1
  rw [e2, e3] at e1
  simp only [lexAns, if_neg (show ¬ 65536 < (s ++ [32] ++ t).length by simp; omega), e1, LexR.pre]
  rfl
end Go.Proofs.YtghhkbigmmjanaaGreatDoor.VA

/-! Pd1 -/
namespace Go.Proofs.YtghhkbigmmjanaaGreatDoor.VA
open Go Go.RowKit
attribute [local go_sem] Nat.add_eq_left Nat.left_eq_add true_and and_true ite_true if_false Int.cast_ofNat_Int eq_self Nat.add_assoc Option.some.injEq decide_true decide_false Bool.not_true Bool.not_false List.size_toArray List.length_cons List.length_nil
set_option linter.unusedSimpArgs false
set_option maxRecDepth 100000

/-! ### a token that may be -/
def okB (k : Int) (c : Nat) : Bool := !((decide (k = 0) && !inWord c) || (decide (k = 1) && !isDigit c) || (decide (k = 2) && !isSign c))
def endB (k : Int) (t : List UInt8) : Bool := bif decide (k = 0) then isLetter (t.getD 0 0).toNat else bif decide (k = 1) then decide (t.length ≤ 9) else decide (k = 2) && decide (t.length = 1)
def rightR (k : Int) (t : List UInt8) : Bool := decide (1 ≤ t.length) && decide (t.length ≤ 65536) && (t.all (fun b => okB k b.toNat) && endB k t)
theorem span_all (p : Nat → Bool) : ∀ (l : List UInt8), span p l = l.length ↔ l.all (fun b => p b.toNat) = true
  | [] => by simp [span_nil]
  | b :: l => by
    rw [span_cons, List.all_cons]
    cases h : p b.toNat with
    | true => simp [span_all p l]
    | false => simp
theorem cls5_iff (n : Nat) : cls n = 5 ↔ isSign n = true := by
  constructor
  · intro h
    unfold cls at h
    repeat' split at h
    all_goals first | omega | assumption
  · intro h
    have hm : n ∈ signs := by simpa [isSign] using h
    simp only [signs, List.mem_cons, List.not_mem_nil, or_false] at hm
    rcases hm with rfl | rfl | rfl | rfl | rfl | rfl | rfl | rfl | rfl | rfl | rfl | rfl | rfl | rfl <;> rfl
theorem rightB_R (k : Int) (t : List UInt8) : rightB k t = rightR k t := by
  have key : rightB k t = true ↔ rightR k t = true := by
    constructor
    · intro h
      obtain ⟨m, rfl, hm, hl⟩ := right_tok h
      have hl' : decide (t.length ≤ 65536) = true := by simpa using hl
      rcases hm with ⟨rfl, b, l, rfl, hc, hs⟩ | ⟨rfl, b, l, rfl, hc, hs, h9⟩ | ⟨rfl, b, rfl, hc⟩
      · have h3 := (cls3_iff _).1 hc
        have ha := (span_all _ _).1 hs
        simp only [rightR, hl', okB, endB]
        simp at ha ⊢
        exact ⟨ha, h3⟩
      · have ha := (span_all _ _).1 hs
        simp only [rightR, hl', okB, endB]
        simp at ha h9 ⊢
        exact ⟨ha, h9⟩
      · have h5 := (cls5_iff _).1 hc
        simp [rightR, okB, endB, h5]
    · intro h
      simp only [rightR, Bool.and_eq_true, decide_eq_true_eq] at h
      obtain ⟨⟨h1, h2⟩, h3, h4⟩ := h
      cases t with
      | nil => simp at h1
      | cons b l =>
        by_cases k0 : k = 0
        · subst k0
          simp only [endB, decide_true, cond_true] at h4
          have ha : (b :: l).all (fun b => inWord b.toNat) = true := by simpa [okB] using h3
          exact tok_right (k := 0) (.inl ⟨rfl, b, l, rfl, (cls3_iff _).2 (by simpa using h4), (span_all _ _).2 ha⟩) h2
        · by_cases k1 : k = 1
          · subst k1
            have ha : (b :: l).all (fun b => isDigit b.toNat) = true := by simpa [okB] using h3
            have hb : isDigit b.toNat = true := by rw [List.all_cons, Bool.and_eq_true] at ha; exact ha.1
            have h9 : (b :: l).length ≤ 9 := by simpa [endB] using h4
            exact tok_right (k := 1) (.inr (.inl ⟨rfl, b, l, rfl, (cls4_iff _).2 hb, (span_all _ _).2 ha, h9⟩)) h2
          · by_cases k2 : k = 2
            · subst k2
              have hl : l = [] := by simpa [endB] using h4
              subst hl
              have hb : isSign b.toNat = true := by simpa [okB] using h3
              exact tok_right (k := 2) (.inr (.inr ⟨rfl, b, rfl, (cls5_iff _).2 hb⟩)) h2
            · simp [endB, k0, k1, k2] at h4
  cases h : rightB k t with
  | true => exact (key.1 h).symm
  | false =>
    cases h2 : rightR k t with
    | false => rfl
    | true => rw [key.2 h2] at h; cases h
set_option maxRecDepth 20000 in
theorem c_rRight (k a : Int) (t : List UInt8) (H : Heap) : calls Tryz.prog cfg 67 [.agg [.lit (.int .i64 k), .lit (.string (ba t)), .lit (.int .i64 a)]] H = some (.ret (.lit (.bool (rightB k t))) H) := by
  refine calls_pure (fn := Tryz.f67) rfl rfl rfl rfl rfl ?_ H
  have rs : Tryz.f67.results.toList = [.tmp 2] := rfl
  generalize hr : rightB k t = r
  rw [rightB_R, rightR] at hr
  by_cases h1 : 1 ≤ t.length
  · have d1 : decide (((t.length : Nat) : Int) < 1) = false := by simp; omega
    have d1' : decide (1 ≤ t.length) = true := by simp [h1]
    rw [d1', Bool.true_and] at hr
    by_cases h2 : t.length ≤ 65536
    · have d2 : decide (65536 < ((t.length : Nat) : Int)) = false := by simp; omega
      have d2' : decide (t.length ≤ 65536) = true := by simp [h2]
      rw [d2', Bool.true_and] at hr
      have hk : (decide (k = 0) = true ∧ decide (k = 1) = false ∧ decide (k = 2) = false) ∨ (decide (k = 0) = false ∧ decide (k = 1) = true ∧ decide (k = 2) = false) ∨
          (decide (k = 0) = false ∧ decide (k = 1) = false ∧ decide (k = 2) = true) ∨ (decide (k = 0) = false ∧ decide (k = 1) = false ∧ decide (k = 2) = false) := by simp; omega
      simp only [go_sem, Nat.reduceBEq, Nat.reduceLeDiff, Nat.reduceEqDiff, Nat.reduceSub, Nat.reduceAdd, Int.reduceEq, Int.reduceLT, Int.reduceLE, Int.reduceAdd, rs, ba_size, d1, d2]
      refine W_loop_ind (fun n e H => ∃ i : Nat, n = t.length - i ∧ i ≤ t.length ∧ ((t.drop i).all (fun b => okB k b.toNat) && endB k t) = r ∧ gget .bad e 1 = .ptr 0 0 ∧ gget .bad e 3 = .lit (.int .i64 (i : Nat)) ∧
          H.get 0 = some [.lit (.int .i64 k), .lit (.string (ba t)), .lit (.int .i64 a)]) t.length ⟨0, rfl, by omega, hr, by simp only [go_sem, Nat.reduceBEq, Nat.reduceLeDiff, Nat.reduceEqDiff, Nat.reduceSub, Nat.reduceAdd, Int.reduceEq, Int.reduceLT, Int.reduceLE, Int.reduceAdd], by simp only [go_sem, Nat.reduceBEq, Nat.reduceLeDiff, Nat.reduceEqDiff, Nat.reduceSub, Nat.reduceAdd, Int.reduceEq, Int.reduceLT, Int.reduceLE, Int.reduceAdd] <;> rfl, by simp only [go_sem, Nat.reduceBEq, Nat.reduceLeDiff, Nat.reduceEqDiff, Nat.reduceSub, Nat.reduceAdd, Int.reduceEq, Int.reduceLT, Int.reduceLE, Int.reduceAdd]⟩ ?_
      rintro n ih e H ⟨i, rfl, hle, hR, e1, e3, hg⟩
      by_cases hlt : i < t.length
      · have hlt' : decide ((i : Int) < (t.length : Nat)) = true := by simp; omega
        have hix := ixs_ba hlt
        rw [drop_cons hlt, List.all_cons] at hR
        generalize t.getD i 0 = b at hix hR
        have hw1 := wrap1 (show i + 1 ≤ 9223372036854775807 by omega)
        simp only [go_sem, Nat.reduceBEq, Nat.reduceLeDiff, Nat.reduceEqDiff, Nat.reduceSub, Nat.reduceAdd, Int.reduceEq, Int.reduceLT, Int.reduceLE, Int.reduceAdd, e1, e3, hg, ba_size, hlt', hix]
        have fin : okB k b.toNat = true → W Tryz.prog cfg (.skip) [] e H (fun _ _ _ => True) := fun _ => by simp only [go_sem, Nat.reduceBEq, Nat.reduceLeDiff, Nat.reduceEqDiff, Nat.reduceSub, Nat.reduceAdd, Int.reduceEq, Int.reduceLT, Int.reduceLE, Int.reduceAdd]
        rcases hk with ⟨k0, k1, k2⟩ | ⟨k0, k1, k2⟩ | ⟨k0, k1, k2⟩ | ⟨k0, k1, k2⟩
        · cases hb : inWord b.toNat with
          | true =>
            have ho : okB k b.toNat = true := by simp [okB, k0, k1, k2, hb]
            rw [ho, Bool.true_and] at hR
            simp only [go_sem, Nat.reduceBEq, Nat.reduceLeDiff, Nat.reduceEqDiff, Nat.reduceSub, Nat.reduceAdd, Int.reduceEq, Int.reduceLT, Int.reduceLE, Int.reduceAdd, k0, k1, k2, c_rInner, hb, e1, e3, hg, hw1]
            exact ih (t.length - (i + 1)) (by omega) _ _ ⟨i + 1, rfl, by omega, hR, by simp only [go_sem, Nat.reduceBEq, Nat.reduceLeDiff, Nat.reduceEqDiff, Nat.reduceSub, Nat.reduceAdd, Int.reduceEq, Int.reduceLT, Int.reduceLE, Int.reduceAdd, e1], by simp only [go_sem, Nat.reduceBEq, Nat.reduceLeDiff, Nat.reduceEqDiff, Nat.reduceSub, Nat.reduceAdd, Int.reduceEq, Int.reduceLT, Int.reduceLE, Int.reduceAdd], by simp only [go_sem, Nat.reduceBEq, Nat.reduceLeDiff, Nat.reduceEqDiff, Nat.reduceSub, Nat.reduceAdd, Int.reduceEq, Int.reduceLT, Int.reduceLE, Int.reduceAdd, hg]⟩
          | false =>
            have ho : okB k b.toNat = false := by simp [okB, k0, k1, k2, hb]
            rw [ho, Bool.false_and, Bool.false_and] at hR
            simp only [go_sem, Nat.reduceBEq, Nat.reduceLeDiff, Nat.reduceEqDiff, Nat.reduceSub, Nat.reduceAdd, Int.reduceEq, Int.reduceLT, Int.reduceLE, Int.reduceAdd, k0, k1, k2, c_rInner, hb, e1, e3, hg, ← hR]
        · cases hb : isDigit b.toNat with
          | true =>
            have ho : okB k b.toNat = true := by simp [okB, k0, k1, k2, hb]
            rw [ho, Bool.true_and] at hR
            simp only [go_sem, Nat.reduceBEq, Nat.reduceLeDiff, Nat.reduceEqDiff, Nat.reduceSub, Nat.reduceAdd, Int.reduceEq, Int.reduceLT, Int.reduceLE, Int.reduceAdd, k0, k1, k2, c_rDigit, hb, e1, e3, hg, hw1]
            exact ih (t.length - (i + 1)) (by omega) _ _ ⟨i + 1, rfl, by omega, hR, by simp only [go_sem, Nat.reduceBEq, Nat.reduceLeDiff, Nat.reduceEqDiff, Nat.reduceSub, Nat.reduceAdd, Int.reduceEq, Int.reduceLT, Int.reduceLE, Int.reduceAdd, e1], by simp only [go_sem, Nat.reduceBEq, Nat.reduceLeDiff, Nat.reduceEqDiff, Nat.reduceSub, Nat.reduceAdd, Int.reduceEq, Int.reduceLT, Int.reduceLE, Int.reduceAdd], by simp only [go_sem, Nat.reduceBEq, Nat.reduceLeDiff, Nat.reduceEqDiff, Nat.reduceSub, Nat.reduceAdd, Int.reduceEq, Int.reduceLT, Int.reduceLE, Int.reduceAdd, hg]⟩
          | false =>
            have ho : okB k b.toNat = false := by simp [okB, k0, k1, k2, hb]
            rw [ho, Bool.false_and, Bool.false_and] at hR
            simp only [go_sem, Nat.reduceBEq, Nat.reduceLeDiff, Nat.reduceEqDiff, Nat.reduceSub, Nat.reduceAdd, Int.reduceEq, Int.reduceLT, Int.reduceLE, Int.reduceAdd, k0, k1, k2, c_rDigit, hb, e1, e3, hg, ← hR]
        · cases hb : isSign b.toNat with
          | true =>
            have ho : okB k b.toNat = true := by simp [okB, k0, k1, k2, hb]
            rw [ho, Bool.true_and] at hR
            simp only [go_sem, Nat.reduceBEq, Nat.reduceLeDiff, Nat.reduceEqDiff, Nat.reduceSub, Nat.reduceAdd, Int.reduceEq, Int.reduceLT, Int.reduceLE, Int.reduceAdd, k0, k1, k2, c_rSign, hb, e1, e3, hg, hw1]
            exact ih (t.length - (i + 1)) (by omega) _ _ ⟨i + 1, rfl, by omega, hR, by simp only [go_sem, Nat.reduceBEq, Nat.reduceLeDiff, Nat.reduceEqDiff, Nat.reduceSub, Nat.reduceAdd, Int.reduceEq, Int.reduceLT, Int.reduceLE, Int.reduceAdd, e1], by simp only [go_sem, Nat.reduceBEq, Nat.reduceLeDiff, Nat.reduceEqDiff, Nat.reduceSub, Nat.reduceAdd, Int.reduceEq, Int.reduceLT, Int.reduceLE, Int.reduceAdd], by simp only [go_sem, Nat.reduceBEq, Nat.reduceLeDiff, Nat.reduceEqDiff, Nat.reduceSub, Nat.reduceAdd, Int.reduceEq, Int.reduceLT, Int.reduceLE, Int.reduceAdd, hg]⟩
          | false =>
            have ho : okB k b.toNat = false := by simp [okB, k0, k1, k2, hb]
            rw [ho, Bool.false_and, Bool.false_and] at hR
            simp only [go_sem, Nat.reduceBEq, Nat.reduceLeDiff, Nat.reduceEqDiff, Nat.reduceSub, Nat.reduceAdd, Int.reduceEq, Int.reduceLT, Int.reduceLE, Int.reduceAdd, k0, k1, k2, c_rSign, hb, e1, e3, hg, ← hR]
        · have ho : okB k b.toNat = true := by simp [okB, k0, k1, k2]
          rw [ho, Bool.true_and] at hR
          simp only [go_sem, Nat.reduceBEq, Nat.reduceLeDiff, Nat.reduceEqDiff, Nat.reduceSub, Nat.reduceAdd, Int.reduceEq, Int.reduceLT, Int.reduceLE, Int.reduceAdd, k0, k1, k2, e1, e3, hg, hw1]
          exact ih (t.length - (i + 1)) (by omega) _ _ ⟨i + 1, rfl, by omega, hR, by simp only [go_sem, Nat.reduceBEq, Nat.reduceLeDiff, Nat.reduceEqDiff, Nat.reduceSub, Nat.reduceAdd, Int.reduceEq, Int.reduceLT, Int.reduceLE, Int.reduceAdd, e1], by simp only [go_sem, Nat.reduceBEq, Nat.reduceLeDiff, Nat.reduceEqDiff, Nat.reduceSub, Nat.reduceAdd, Int.reduceEq, Int.reduceLT, Int.reduceLE, Int.reduceAdd], by simp only [go_sem, Nat.reduceBEq, Nat.reduceLeDiff, Nat.reduceEqDiff, Nat.reduceSub, Nat.reduceAdd, Int.reduceEq, Int.reduceLT, Int.reduceLE, Int.reduceAdd, hg]⟩
      · have hlt' : decide ((i : Int) < (t.length : Nat)) = false := by simp; omega
        rw [List.drop_of_length_le (by omega), List.all_nil, Bool.true_and] at hR
        have h0 : 0 < t.length := by omega
        have hix := ixs_ba h0
        simp only [go_sem, Nat.reduceBEq, Nat.reduceLeDiff, Nat.reduceEqDiff, Nat.reduceSub, Nat.reduceAdd, Int.reduceEq, Int.reduceLT, Int.reduceLE, Int.reduceAdd, e1, e3, hg, ba_size, hlt']
        rcases hk with ⟨k0, k1, k2⟩ | ⟨k0, k1, k2⟩ | ⟨k0, k1, k2⟩ | ⟨k0, k1, k2⟩
        · simp only [endB, k0, cond_true] at hR
          simp only [go_sem, Nat.reduceBEq, Nat.reduceLeDiff, Nat.reduceEqDiff, Nat.reduceSub, Nat.reduceAdd, Int.reduceEq, Int.reduceLT, Int.reduceLE, Int.reduceAdd, k0, e1, e3, hg, hix, c_rLetter, hR]
        · have h9 : decide (((t.length : Nat) : Int) ≤ 9) = r := by rw [← hR]; simp only [endB, k0, k1, cond_true, cond_false]; rw [Bool.eq_iff_iff]; simp; omega
          simp only [go_sem, Nat.reduceBEq, Nat.reduceLeDiff, Nat.reduceEqDiff, Nat.reduceSub, Nat.reduceAdd, Int.reduceEq, Int.reduceLT, Int.reduceLE, Int.reduceAdd, k0, k1, e1, e3, hg, ba_size, h9]
        · have h9 : decide (((t.length : Nat) : Int) = 1) = r := by rw [← hR]; simp only [endB, k0, k1, k2, cond_true, cond_false, Bool.true_and]; rw [Bool.eq_iff_iff]; simp; omega
          simp only [go_sem, Nat.reduceBEq, Nat.reduceLeDiff, Nat.reduceEqDiff, Nat.reduceSub, Nat.reduceAdd, Int.reduceEq, Int.reduceLT, Int.reduceLE, Int.reduceAdd, k0, k1, k2, e1, e3, hg, ba_size, h9]
        · have h9 : r = false := by rw [← hR]; simp only [endB, k0, k1, k2, cond_true, cond_false, Bool.false_and]
          simp only [go_sem, Nat.reduceBEq, Nat.reduceLeDiff, Nat.reduceEqDiff, Nat.reduceSub, Nat.reduceAdd, Int.reduceEq, Int.reduceLT, Int.reduceLE, Int.reduceAdd, k0, k1, k2, e1, e3, hg, ba_size, h9]
    · have d2 : decide (65536 < ((t.length : Nat) : Int)) = true := by simp; omega
      have d2' : decide (t.length ≤ 65536) = false := by simp; omega
      have hr' : r = false := by rw [← hr, d2']; rfl
      simp only [go_sem, Nat.reduceBEq, Nat.reduceLeDiff, Nat.reduceEqDiff, Nat.reduceSub, Nat.reduceAdd, Int.reduceEq, Int.reduceLT, Int.reduceLE, Int.reduceAdd, rs, ba_size, d1, d2, hr']
  · have d1 : decide (((t.length : Nat) : Int) < 1) = true := by simp; omega
    have d1' : decide (1 ≤ t.length) = false := decide_eq_false h1
    have hr' : r = false := by rw [← hr, d1']; rfl
    simp only [go_sem, Nat.reduceBEq, Nat.reduceLeDiff, Nat.reduceEqDiff, Nat.reduceSub, Nat.reduceAdd, Int.reduceEq, Int.reduceLT, Int.reduceLE, Int.reduceAdd, rs, ba_size, d1, hr']

/-! ### names -/
def kwB (t : List UInt8) : Bool := keyword t
set_option maxRecDepth 20000 in
theorem c_keyword (t : List UInt8) (H : Heap) : calls Tryz.prog cfg 15 [.lit (.string (ba t))] H = some (.ret (.lit (.bool (keyword t))) H) := by
  refine calls_pure (fn := Tryz.f15) rfl rfl rfl rfl rfl ?_ H
  have rs : Tryz.f15.results.toList = [.tmp 2] := rfl
  have hd : ∀ u, decide (ba t = ba u) = (t == u) := fun u => by rw [Bool.eq_iff_iff]; simp [ba_inj]
  generalize hr : keyword t = r
  simp only [keyword, words, List.contains_cons, List.contains_nil] at hr
  simp only [go_sem, Nat.reduceBEq, Nat.reduceLeDiff, Nat.reduceEqDiff, Nat.reduceSub, Nat.reduceAdd, Int.reduceEq, Int.reduceLT, Int.reduceLE, Int.reduceAdd, rs, hd]
  cases h1 : (t == [102, 117, 110]) with
  | true => rw [h1] at hr; simp only [go_sem, Nat.reduceBEq, Nat.reduceLeDiff, Nat.reduceEqDiff, Nat.reduceSub, Nat.reduceAdd, Int.reduceEq, Int.reduceLT, Int.reduceLE, Int.reduceAdd, Bool.true_or] at hr ⊢; simp only [← hr]
  | false =>
  rw [h1, Bool.false_or] at hr
  simp only [go_sem, Nat.reduceBEq, Nat.reduceLeDiff, Nat.reduceEqDiff, Nat.reduceSub, Nat.reduceAdd, Int.reduceEq, Int.reduceLT, Int.reduceLE, Int.reduceAdd, hd]
  cases h2 : (t == [111, 117, 116]) with
  | true => rw [h2] at hr; simp only [go_sem, Nat.reduceBEq, Nat.reduceLeDiff, Nat.reduceEqDiff, Nat.reduceSub, Nat.reduceAdd, Int.reduceEq, Int.reduceLT, Int.reduceLE, Int.reduceAdd, Bool.true_or] at hr ⊢; simp only [← hr]
  | false =>
  rw [h2, Bool.false_or] at hr
  simp only [go_sem, Nat.reduceBEq, Nat.reduceLeDiff, Nat.reduceEqDiff, Nat.reduceSub, Nat.reduceAdd, Int.reduceEq, Int.reduceLT, Int.reduceLE, Int.reduceAdd, hd]
  cases h3 : (t == [114, 101, 116, 117, 114, 110]) with
  | true => rw [h3] at hr; simp only [go_sem, Nat.reduceBEq, Nat.reduceLeDiff, Nat.reduceEqDiff, Nat.reduceSub, Nat.reduceAdd, Int.reduceEq, Int.reduceLT, Int.reduceLE, Int.reduceAdd, Bool.true_or] at hr ⊢; simp only [← hr]
  | false =>
  rw [h3, Bool.false_or] at hr
  simp only [go_sem, Nat.reduceBEq, Nat.reduceLeDiff, Nat.reduceEqDiff, Nat.reduceSub, Nat.reduceAdd, Int.reduceEq, Int.reduceLT, Int.reduceLE, Int.reduceAdd, hd]
  cases h4 : (t == [105, 102]) with
  | true => rw [h4] at hr; simp only [go_sem, Nat.reduceBEq, Nat.reduceLeDiff, Nat.reduceEqDiff, Nat.reduceSub, Nat.reduceAdd, Int.reduceEq, Int.reduceLT, Int.reduceLE, Int.reduceAdd, Bool.true_or] at hr ⊢; simp only [← hr]
  | false =>
  rw [h4, Bool.false_or] at hr
  simp only [go_sem, Nat.reduceBEq, Nat.reduceLeDiff, Nat.reduceEqDiff, Nat.reduceSub, Nat.reduceAdd, Int.reduceEq, Int.reduceLT, Int.reduceLE, Int.reduceAdd, hd]
  cases h5 : (t == [101, 108, 115, 101]) with
  | true => rw [h5] at hr; simp only [go_sem, Nat.reduceBEq, Nat.reduceLeDiff, Nat.reduceEqDiff, Nat.reduceSub, Nat.reduceAdd, Int.reduceEq, Int.reduceLT, Int.reduceLE, Int.reduceAdd, Bool.true_or] at hr ⊢; simp only [← hr]
  | false =>
  rw [h5, Bool.false_or] at hr
  simp only [go_sem, Nat.reduceBEq, Nat.reduceLeDiff, Nat.reduceEqDiff, Nat.reduceSub, Nat.reduceAdd, Int.reduceEq, Int.reduceLT, Int.reduceLE, Int.reduceAdd, hd]
  cases h6 : (t == [119, 104, 105, 108, 101]) with
  | true => rw [h6] at hr; simp only [go_sem, Nat.reduceBEq, Nat.reduceLeDiff, Nat.reduceEqDiff, Nat.reduceSub, Nat.reduceAdd, Int.reduceEq, Int.reduceLT, Int.reduceLE, Int.reduceAdd, Bool.true_or] at hr ⊢; simp only [← hr]
  | false =>
  rw [h6, Bool.false_or] at hr
  simp only [go_sem, Nat.reduceBEq, Nat.reduceLeDiff, Nat.reduceEqDiff, Nat.reduceSub, Nat.reduceAdd, Int.reduceEq, Int.reduceLT, Int.reduceLE, Int.reduceAdd, hd]
  cases h7 : (t == [110, 101, 119]) with
  | true => rw [h7] at hr; simp only [go_sem, Nat.reduceBEq, Nat.reduceLeDiff, Nat.reduceEqDiff, Nat.reduceSub, Nat.reduceAdd, Int.reduceEq, Int.reduceLT, Int.reduceLE, Int.reduceAdd, Bool.true_or] at hr ⊢; simp only [← hr]
  | false =>
  rw [h7, Bool.false_or] at hr
  simp only [go_sem, Nat.reduceBEq, Nat.reduceLeDiff, Nat.reduceEqDiff, Nat.reduceSub, Nat.reduceAdd, Int.reduceEq, Int.reduceLT, Int.reduceLE, Int.reduceAdd, hd]
  cases h8 : (t == [112, 114, 111, 116, 111]) with
  | true => rw [h8] at hr; simp only [go_sem, Nat.reduceBEq, Nat.reduceLeDiff, Nat.reduceEqDiff, Nat.reduceSub, Nat.reduceAdd, Int.reduceEq, Int.reduceLT, Int.reduceLE, Int.reduceAdd, Bool.true_or] at hr ⊢; simp only [← hr]
  | false =>
  rw [h8, Bool.false_or] at hr
  simp only [go_sem, Nat.reduceBEq, Nat.reduceLeDiff, Nat.reduceEqDiff, Nat.reduceSub, Nat.reduceAdd, Int.reduceEq, Int.reduceLT, Int.reduceLE, Int.reduceAdd, hd]
  cases h9 : (t == [99, 97, 108, 108]) with
  | true => rw [h9] at hr; simp only [go_sem, Nat.reduceBEq, Nat.reduceLeDiff, Nat.reduceEqDiff, Nat.reduceSub, Nat.reduceAdd, Int.reduceEq, Int.reduceLT, Int.reduceLE, Int.reduceAdd, Bool.true_or] at hr ⊢; simp only [← hr]
  | false =>
  rw [h9, Bool.false_or] at hr
  simp only [go_sem, Nat.reduceBEq, Nat.reduceLeDiff, Nat.reduceEqDiff, Nat.reduceSub, Nat.reduceAdd, Int.reduceEq, Int.reduceLT, Int.reduceLE, Int.reduceAdd, hd]
  cases h10 : (t == [105, 110]) with
  | true => rw [h10] at hr; simp only [go_sem, Nat.reduceBEq, Nat.reduceLeDiff, Nat.reduceEqDiff, Nat.reduceSub, Nat.reduceAdd, Int.reduceEq, Int.reduceLT, Int.reduceLE, Int.reduceAdd, Bool.true_or] at hr ⊢; simp only [← hr]
  | false =>
  rw [h10, Bool.false_or] at hr
  simp only [go_sem, Nat.reduceBEq, Nat.reduceLeDiff, Nat.reduceEqDiff, Nat.reduceSub, Nat.reduceAdd, Int.reduceEq, Int.reduceLT, Int.reduceLE, Int.reduceAdd, hd]
  cases h11 : (t == [110, 117, 108, 108]) with
  | true => rw [h11] at hr; simp only [go_sem, Nat.reduceBEq, Nat.reduceLeDiff, Nat.reduceEqDiff, Nat.reduceSub, Nat.reduceAdd, Int.reduceEq, Int.reduceLT, Int.reduceLE, Int.reduceAdd, Bool.true_or] at hr ⊢; simp only [← hr]
  | false =>
  rw [h11, Bool.false_or] at hr
  simp only [go_sem, Nat.reduceBEq, Nat.reduceLeDiff, Nat.reduceEqDiff, Nat.reduceSub, Nat.reduceAdd, Int.reduceEq, Int.reduceLT, Int.reduceLE, Int.reduceAdd, hd]
  cases h12 : (t == [116, 114, 117, 101]) with
  | true => rw [h12] at hr; simp only [go_sem, Nat.reduceBEq, Nat.reduceLeDiff, Nat.reduceEqDiff, Nat.reduceSub, Nat.reduceAdd, Int.reduceEq, Int.reduceLT, Int.reduceLE, Int.reduceAdd, Bool.true_or] at hr ⊢; simp only [← hr]
  | false =>
  rw [h12, Bool.false_or] at hr
  simp only [go_sem, Nat.reduceBEq, Nat.reduceLeDiff, Nat.reduceEqDiff, Nat.reduceSub, Nat.reduceAdd, Int.reduceEq, Int.reduceLT, Int.reduceLE, Int.reduceAdd, hd]
  cases h13 : (t == [102, 97, 108, 115, 101]) with
  | true => rw [h13] at hr; simp only [go_sem, Nat.reduceBEq, Nat.reduceLeDiff, Nat.reduceEqDiff, Nat.reduceSub, Nat.reduceAdd, Int.reduceEq, Int.reduceLT, Int.reduceLE, Int.reduceAdd, Bool.true_or] at hr ⊢; simp only [← hr]
  | false =>
  rw [h13, Bool.false_or] at hr
  simp only [go_sem, Nat.reduceBEq, Nat.reduceLeDiff, Nat.reduceEqDiff, Nat.reduceSub, Nat.reduceAdd, Int.reduceEq, Int.reduceLT, Int.reduceLE, Int.reduceAdd, ← hr]
theorem wordsB : aBuildSlice Tryz.prog 37 13 [(0, .lit (.string (ba [102, 117, 110]))), (1, .lit (.string (ba [111, 117, 116]))), (2, .lit (.string (ba [114, 101, 116, 117, 114, 110]))), (3, .lit (.string (ba [105, 102]))),
    (4, .lit (.string (ba [101, 108, 115, 101]))), (5, .lit (.string (ba [119, 104, 105, 108, 101]))), (6, .lit (.string (ba [110, 101, 119]))), (7, .lit (.string (ba [112, 114, 111, 116, 111]))), (8, .lit (.string (ba [99, 97, 108, 108]))),
    (9, .lit (.string (ba [105, 110]))), (10, .lit (.string (ba [110, 117, 108, 108]))), (11, .lit (.string (ba [116, 114, 117, 101]))), (12, .lit (.string (ba [102, 97, 108, 115, 101])))] = some (.sl .ex (words.map encStr)) := by kernel_rfl
theorem iad_encStr {t : TypeId} {bs : Nat} {o : Own} {l : List (List UInt8)} {i : Nat} (h : i < l.length) : iad (some (t, 1, bs)) (.sl o (l.map encStr)) (some i) = some (.ep (encStr (l.getD i []))) := by
  refine iad_some ?_ rfl
  rw [List.getElem?_map, List.getElem?_eq_getElem h, List.getD_eq_getElem?_getD, List.getElem?_eq_getElem h]
  rfl
set_option maxRecDepth 20000 in
theorem c_rKeyword (t : List UInt8) (H : Heap) : calls Tryz.prog cfg 16 [.lit (.string (ba t))] H = some (.ret (.lit (.bool (keyword t))) H) := by
  refine calls_pure (fn := Tryz.f16) rfl rfl rfl rfl rfl ?_ H
  have rs : Tryz.f16.results.toList = [.tmp 2] := rfl
  have hwl : words.length = 13 := rfl
  generalize hr : keyword t = r
  unfold keyword at hr
  simp only [go_sem, Nat.reduceBEq, Nat.reduceLeDiff, Nat.reduceEqDiff, Nat.reduceSub, Nat.reduceAdd, Int.reduceEq, Int.reduceLT, Int.reduceLE, Int.reduceAdd, rs, wordsB]
  refine W_loop_ind (fun n e H => ∃ i : Nat, n = words.length - i ∧ i ≤ words.length ∧ (words.drop i).contains t = r ∧ gget .bad e 0 = .lit (.string (ba t)) ∧ gget .bad e 3 = .sl .ex (words.map encStr) ∧ gget .bad e 4 = .lit (.int .i64 (i : Nat)))
    words.length ⟨0, rfl, by omega, hr, by simp only [go_sem, Nat.reduceBEq, Nat.reduceLeDiff, Nat.reduceEqDiff, Nat.reduceSub, Nat.reduceAdd, Int.reduceEq, Int.reduceLT, Int.reduceLE, Int.reduceAdd], by simp only [go_sem, Nat.reduceBEq, Nat.reduceLeDiff, Nat.reduceEqDiff, Nat.reduceSub, Nat.reduceAdd, Int.reduceEq, Int.reduceLT, Int.reduceLE, Int.reduceAdd], by simp only [go_sem, Nat.reduceBEq, Nat.reduceLeDiff, Nat.reduceEqDiff, Nat.reduceSub, Nat.reduceAdd, Int.reduceEq, Int.reduceLT, Int.reduceLE, Int.reduceAdd] <;> rfl⟩ ?_
  generalize words = l at hwl
  rintro n ih e H ⟨i, rfl, hle, hR, e0, e3, e4⟩
  by_cases hlt : i < l.length
  · have hlt' : decide ((i : Int) < (l.length : Nat)) = true := by simp; omega
    have hix := iad_encStr (t := 9) (bs := 16) (o := .ex) hlt
    rw [drop_cons' [] hlt, List.contains_cons] at hR
    generalize l.getD i [] = b at hix hR
    have hw1 := wrap1 (show i + 1 ≤ 9223372036854775807 by omega)
    have hd : decide (ba b = ba t) = (t == b) := by rw [Bool.eq_iff_iff]; simp [ba_inj]; exact eq_comm
    simp only [go_sem, Nat.reduceBEq, Nat.reduceLeDiff, Nat.reduceEqDiff, Nat.reduceSub, Nat.reduceAdd, Int.reduceEq, Int.reduceLT, Int.reduceLE, Int.reduceAdd, e0, e3, e4, List.length_map, hlt', hix, encStr, hd]
    cases hb : (t == b) with
    | true =>
      rw [hb, Bool.true_or] at hR
      simp only [go_sem, Nat.reduceBEq, Nat.reduceLeDiff, Nat.reduceEqDiff, Nat.reduceSub, Nat.reduceAdd, Int.reduceEq, Int.reduceLT, Int.reduceLE, Int.reduceAdd, ← hR]
    | false =>
      rw [hb, Bool.false_or] at hR
      simp only [go_sem, Nat.reduceBEq, Nat.reduceLeDiff, Nat.reduceEqDiff, Nat.reduceSub, Nat.reduceAdd, Int.reduceEq, Int.reduceLT, Int.reduceLE, Int.reduceAdd, e0, e3, e4, hw1]
      exact ih (l.length - (i + 1)) (by omega) _ _ ⟨i + 1, rfl, by omega, hR, by simp only [go_sem, Nat.reduceBEq, Nat.reduceLeDiff, Nat.reduceEqDiff, Nat.reduceSub, Nat.reduceAdd, Int.reduceEq, Int.reduceLT, Int.reduceLE, Int.reduceAdd, e0], by simp only [go_sem, Nat.reduceBEq, Nat.reduceLeDiff, Nat.reduceEqDiff, Nat.reduceSub, Nat.reduceAdd, Int.reduceEq, Int.reduceLT, Int.reduceLE, Int.reduceAdd, e3], by simp only [go_sem, Nat.reduceBEq, Nat.reduceLeDiff, Nat.reduceEqDiff, Nat.reduceSub, Nat.reduceAdd, Int.reduceEq, Int.reduceLT, Int.reduceLE, Int.reduceAdd]⟩
  · have hlt' : decide ((i : Int) < (l.length : Nat)) = false := by simp; omega
    rw [List.drop_of_length_le (by omega), List.contains_nil] at hR
    simp only [go_sem, Nat.reduceBEq, Nat.reduceLeDiff, Nat.reduceEqDiff, Nat.reduceSub, Nat.reduceAdd, Int.reduceEq, Int.reduceLT, Int.reduceLE, Int.reduceAdd, e0, e3, e4, List.length_map, hlt', ← hR]
theorem c_rName (t : List UInt8) (H : Heap) : calls Tryz.prog cfg 40 [.lit (.string (ba t))] H = some (.ret (.lit (.bool (rightB 0 t && !keyword t))) H) := by
  refine calls_pure (fn := Tryz.f40) rfl rfl rfl rfl rfl ?_ H
  have rs : Tryz.f40.results.toList = [.tmp 2] := rfl
  simp only [go_sem, Nat.reduceBEq, Nat.reduceLeDiff, Nat.reduceEqDiff, Nat.reduceSub, Nat.reduceAdd, Int.reduceEq, Int.reduceLT, Int.reduceLE, Int.reduceAdd, rs, c_rRight]
  cases rightB 0 t with
  | true => simp only [go_sem, Nat.reduceBEq, Nat.reduceLeDiff, Nat.reduceEqDiff, Nat.reduceSub, Nat.reduceAdd, Int.reduceEq, Int.reduceLT, Int.reduceLE, Int.reduceAdd, c_rKeyword, Bool.true_and]
  | false => simp only [go_sem, Nat.reduceBEq, Nat.reduceLeDiff, Nat.reduceEqDiff, Nat.reduceSub, Nat.reduceAdd, Int.reduceEq, Int.reduceLT, Int.reduceLE, Int.reduceAdd, Bool.false_and]
end Go.Proofs.YtghhkbigmmjanaaGreatDoor.VA

/-! Pd2 -/
namespace Go.Proofs.YtghhkbigmmjanaaGreatDoor.VA
open Go Go.RowKit
attribute [local go_sem] Nat.add_eq_left Nat.left_eq_add true_and and_true ite_true if_false Int.cast_ofNat_Int eq_self Nat.add_assoc Option.some.injEq decide_true decide_false Bool.not_true Bool.not_false List.size_toArray List.length_cons List.length_nil
set_option linter.unusedSimpArgs false
set_option maxRecDepth 100000

theorem tk_bad {l : List GTok} {s : PS} {q : Nat × Int} (h : s.f = some q) : tk l s = none := by simp [tk, h]
theorem tk_end {l : List GTok} {s : PS} (h : ¬ s.at_ < l.length) : tk l s = none := by
  unfold tk
  split
  · exact List.getElem?_eq_none (by omega)
  · rfl
theorem tk_in {l : List GTok} {s : PS} (hf : s.f = none) (h : s.at_ < l.length) : tk l s = some (l.getD s.at_ default) := by
  simp only [tk, hf]
  rw [List.getD_eq_getElem?_getD, List.getElem?_eq_getElem h]
  rfl
theorem ok_none {s : PS} (h : s.f = none) : s.ok = true := by simp [PS.ok, h]
theorem ok_some {s : PS} {q : Nat × Int} (h : s.f = some q) : s.ok = false := by simp [PS.ok, h]
theorem f_none {s : PS} (h : s.ok = true) : s.f = none := by simpa [PS.ok] using h
section
variable {l : List GTok} {en : Int}
theorem c_rOk (s : PS) (H : Heap) : calls Tryz.prog cfg 59 [.agg (cS l en s)] H = some (.ret (.lit (.bool s.ok)) H) := by
  refine calls_pure (fn := Tryz.f59) rfl rfl rfl rfl rfl ?_ H
  have rs : Tryz.f59.results.toList = [.tmp 2] := rfl
  have d : decide (((fcode s : Nat) : Int) = 0) = s.ok := by
    unfold fcode PS.ok
    cases s.f with
    | none => rfl
    | some q => obtain ⟨c, a⟩ := q; simp; omega
  simp only [go_sem, Nat.reduceBEq, Nat.reduceLeDiff, Nat.reduceEqDiff, Nat.reduceSub, Nat.reduceAdd, Int.reduceEq, Int.reduceLT, Int.reduceLE, Int.reduceAdd, rs, d]
theorem fail_cells (s : PS) (code : Nat) (p : Int) : (cS l en s).take 4 ++ [.lit (.int .i64 ((code + 20 : Nat) : Int)), .lit (.int .i64 p)] = cS l en { s with f := some (code, p) } := rfl
set_option maxRecDepth 20000 in
theorem c_rFail (s : PS) (code : Nat) (H : Heap) : calls Tryz.prog cfg 87 [.agg (cS l en s), .lit (.int .i64 ((code + 20 : Nat) : Int))] H = some (.ret (.agg (cS l en (pfail l en s code))) H) := by
  refine calls_pure (fn := Tryz.f87) rfl rfl rfl rfl rfl ?_ H
  have rs : Tryz.f87.results.toList = [.cell 4 80] := rfl
  have hcode : IntKind.wrap .i64 0 = 0 := rfl
  generalize hkk : ((code + 20 : Nat) : Int) = kk
  cases hf : s.f with
  | some q =>
    have hr : pfail l en s code = s := by simp only [pfail, hf]
    simp only [go_sem, Nat.reduceBEq, Nat.reduceLeDiff, Nat.reduceEqDiff, Nat.reduceSub, Nat.reduceAdd, Int.reduceEq, Int.reduceLT, Int.reduceLE, Int.reduceAdd, rs, c_rOk, ok_some hf, hr]
  | none =>
    have hr : pfail l en s code = { s with f := some (code, place l en s.at_) } := by simp only [pfail, hf]
    have hc : ∀ p, (cS l en s).take 4 ++ [.lit (.int .i64 kk), .lit (.int .i64 p)] = cS l en { s with f := some (code, p) } := fun p => by rw [← hkk]; exact fail_cells s code p
    rw [hr]
    by_cases hlt : s.at_ < l.length
    · have hlt' : decide ((s.at_ : Int) < (l.length : Nat)) = true := by simp; omega
      have ha := iad_encG (t := 66) (bs := 32) (o := .sh) hlt
      have hp : place l en s.at_ = (l.getD s.at_ default).at_ := by simp only [place, hlt, if_true]
      rw [hp]
      simp only [go_sem, Nat.reduceBEq, Nat.reduceLeDiff, Nat.reduceEqDiff, Nat.reduceSub, Nat.reduceAdd, Int.reduceEq, Int.reduceLT, Int.reduceLE, Int.reduceAdd, rs, c_rOk, ok_none hf, List.length_map, hlt', ha, encG, hc]
    · have hlt' : decide ((s.at_ : Int) < (l.length : Nat)) = false := by simp; omega
      have hp : place l en s.at_ = en := by simp only [place, hlt, if_false]
      rw [hp]
      simp only [go_sem, Nat.reduceBEq, Nat.reduceLeDiff, Nat.reduceEqDiff, Nat.reduceSub, Nat.reduceAdd, Int.reduceEq, Int.reduceLT, Int.reduceLE, Int.reduceAdd, rs, c_rOk, ok_none hf, List.length_map, hlt', hc]
theorem c_rFail0 (s : PS) (H : Heap) : calls Tryz.prog cfg 87 [.agg (cS l en s), .lit (.int .i64 20)] H = some (.ret (.agg (cS l en (pfail l en s 0))) H) := c_rFail s 0 H
theorem c_rFail1 (s : PS) (H : Heap) : calls Tryz.prog cfg 87 [.agg (cS l en s), .lit (.int .i64 21)] H = some (.ret (.agg (cS l en (pfail l en s 1))) H) := c_rFail s 1 H
theorem c_rFail2 (s : PS) (H : Heap) : calls Tryz.prog cfg 87 [.agg (cS l en s), .lit (.int .i64 22)] H = some (.ret (.agg (cS l en (pfail l en s 2))) H) := c_rFail s 2 H
set_option maxRecDepth 20000 in
theorem c_rIs (s : PS) (t : List UInt8) (H : Heap) : calls Tryz.prog cfg 88 [.agg (cS l en s), .lit (.string (ba t))] H = some (.ret (.lit (.bool (isT l s t))) H) := by
  refine calls_pure (fn := Tryz.f88) rfl rfl rfl rfl rfl ?_ H
  have rs : Tryz.f88.results.toList = [.tmp 4] := rfl
  generalize hr : isT l s t = r
  unfold isT at hr
  cases hf : s.f with
  | some q =>
    rw [tk_bad hf] at hr
    have hr' : r = false := hr.symm
    simp only [go_sem, Nat.reduceBEq, Nat.reduceLeDiff, Nat.reduceEqDiff, Nat.reduceSub, Nat.reduceAdd, Int.reduceEq, Int.reduceLT, Int.reduceLE, Int.reduceAdd, rs, c_rOk, ok_some hf, hr']
  | none =>
    by_cases hlt : s.at_ < l.length
    · have hlt' : decide ((s.at_ : Int) < (l.length : Nat)) = true := by simp; omega
      have ha := iad_encG (t := 66) (bs := 32) (o := .sh) hlt
      rw [tk_in hf hlt] at hr
      generalize l.getD s.at_ default = x at ha hr
      have hr' : (rightB x.kind x.text && decide (x.text = t) && !decide (x.kind = 1)) = r := hr
      have hd : decide (ba x.text = ba t) = decide (x.text = t) := by simp [ba_inj]
      simp only [go_sem, Nat.reduceBEq, Nat.reduceLeDiff, Nat.reduceEqDiff, Nat.reduceSub, Nat.reduceAdd, Int.reduceEq, Int.reduceLT, Int.reduceLE, Int.reduceAdd, rs, c_rOk, ok_none hf, List.length_map, hlt', ha, encG, c_rRight]
      cases h1 : rightB x.kind x.text with
      | false =>
        rw [h1, Bool.false_and, Bool.false_and] at hr'
        simp only [go_sem, Nat.reduceBEq, Nat.reduceLeDiff, Nat.reduceEqDiff, Nat.reduceSub, Nat.reduceAdd, Int.reduceEq, Int.reduceLT, Int.reduceLE, Int.reduceAdd, ← hr']
      | true =>
        rw [h1, Bool.true_and] at hr'
        simp only [go_sem, Nat.reduceBEq, Nat.reduceLeDiff, Nat.reduceEqDiff, Nat.reduceSub, Nat.reduceAdd, Int.reduceEq, Int.reduceLT, Int.reduceLE, Int.reduceAdd, List.length_map, ha, encG, hd]
        cases h2 : decide (x.text = t) with
        | false =>
          rw [h2, Bool.false_and] at hr'
          simp only [go_sem, Nat.reduceBEq, Nat.reduceLeDiff, Nat.reduceEqDiff, Nat.reduceSub, Nat.reduceAdd, Int.reduceEq, Int.reduceLT, Int.reduceLE, Int.reduceAdd, ← hr']
        | true =>
          rw [h2, Bool.true_and] at hr'
          simp only [go_sem, Nat.reduceBEq, Nat.reduceLeDiff, Nat.reduceEqDiff, Nat.reduceSub, Nat.reduceAdd, Int.reduceEq, Int.reduceLT, Int.reduceLE, Int.reduceAdd, List.length_map, ha, encG, hr']
    · have hlt' : decide ((s.at_ : Int) < (l.length : Nat)) = false := by simp; omega
      rw [tk_end hlt] at hr
      have hr' : r = false := hr.symm
      simp only [go_sem, Nat.reduceBEq, Nat.reduceLeDiff, Nat.reduceEqDiff, Nat.reduceSub, Nat.reduceAdd, Int.reduceEq, Int.reduceLT, Int.reduceLE, Int.reduceAdd, rs, c_rOk, ok_none hf, List.length_map, hlt', hr']
theorem at_wrap (hlen : l.length ≤ LM) {s : PS} (h : s.at_ < l.length) : IntKind.wrap .i64 ((s.at_ : Int) + 1) = ((s.at_ + 1 : Nat) : Int) := wrap1 (by unfold LM at hlen; omega)
theorem isT_at {s : PS} {t : List UInt8} (h : isT l s t = true) : s.at_ < l.length := by obtain ⟨x, h1, _⟩ := isT_some h; exact (tk_some h1).2.2.1
theorem isName_at {s : PS} (h : isName l s = true) : s.at_ < l.length := by obtain ⟨x, h1, _⟩ := isName_some h; exact (tk_some h1).2.2.1
theorem c_rNeed (hlen : l.length ≤ LM) (s : PS) (t : List UInt8) (H : Heap) : calls Tryz.prog cfg 61 [.agg (cS l en s), .lit (.string (ba t))] H = some (.ret (.agg (cS l en (need l en s t))) H) := by
  refine calls_pure (fn := Tryz.f61) rfl rfl rfl rfl rfl ?_ H
  have rs : Tryz.f61.results.toList = [.cell 4 80] := rfl
  cases h : isT l s t with
  | true =>
    have hw := at_wrap hlen (isT_at h)
    have hr : need l en s t = s.adv := by simp only [need, h]
    simp only [go_sem, Nat.reduceBEq, Nat.reduceLeDiff, Nat.reduceEqDiff, Nat.reduceSub, Nat.reduceAdd, Int.reduceEq, Int.reduceLT, Int.reduceLE, Int.reduceAdd, rs, c_rIs, h, hw, hr]
  | false =>
    have hr : need l en s t = pfail l en s 0 := by simp only [need, h]
    simp only [go_sem, Nat.reduceBEq, Nat.reduceLeDiff, Nat.reduceEqDiff, Nat.reduceSub, Nat.reduceAdd, Int.reduceEq, Int.reduceLT, Int.reduceLE, Int.reduceAdd, rs, c_rIs, h, c_rFail0, hr]
set_option maxRecDepth 20000 in
theorem c_rIsName (s : PS) (H : Heap) : calls Tryz.prog cfg 86 [.agg (cS l en s)] H = some (.ret (.lit (.bool (isName l s))) H) := by
  refine calls_pure (fn := Tryz.f86) rfl rfl rfl rfl rfl ?_ H
  have rs : Tryz.f86.results.toList = [.tmp 2] := rfl
  generalize hr : isName l s = r
  unfold isName at hr
  cases hf : s.f with
  | some q =>
    rw [tk_bad hf] at hr
    have hr' : r = false := hr.symm
    simp only [go_sem, Nat.reduceBEq, Nat.reduceLeDiff, Nat.reduceEqDiff, Nat.reduceSub, Nat.reduceAdd, Int.reduceEq, Int.reduceLT, Int.reduceLE, Int.reduceAdd, rs, c_rOk, ok_some hf, hr']
  | none =>
    by_cases hlt : s.at_ < l.length
    · have hlt' : decide ((s.at_ : Int) < (l.length : Nat)) = true := by simp; omega
      have ha := iad_encG (t := 66) (bs := 32) (o := .sh) hlt
      rw [tk_in hf hlt] at hr
      generalize l.getD s.at_ default = x at ha hr
      have hr' : (rightB x.kind x.text && decide (x.kind = 0) && !keyword x.text) = r := hr
      by_cases h0 : x.kind = 0
      · have d0 : decide (x.kind = 0) = true := by simp [h0]
        rw [h0] at hr'
        have hr' : (rightB 0 x.text && !keyword x.text) = r := by rw [← hr']; simp
        simp only [go_sem, Nat.reduceBEq, Nat.reduceLeDiff, Nat.reduceEqDiff, Nat.reduceSub, Nat.reduceAdd, Int.reduceEq, Int.reduceLT, Int.reduceLE, Int.reduceAdd, rs, c_rOk, ok_none hf, List.length_map, hlt', ha, encG, d0, c_rName, hr']
      · have d0 : decide (x.kind = 0) = false := by simp [h0]
        have hr2 : r = false := by rw [← hr', d0, Bool.and_false, Bool.false_and]
        simp only [go_sem, Nat.reduceBEq, Nat.reduceLeDiff, Nat.reduceEqDiff, Nat.reduceSub, Nat.reduceAdd, Int.reduceEq, Int.reduceLT, Int.reduceLE, Int.reduceAdd, rs, c_rOk, ok_none hf, List.length_map, hlt', ha, encG, d0, hr2]
    · have hlt' : decide ((s.at_ : Int) < (l.length : Nat)) = false := by simp; omega
      rw [tk_end hlt] at hr
      have hr' : r = false := hr.symm
      simp only [go_sem, Nat.reduceBEq, Nat.reduceLeDiff, Nat.reduceEqDiff, Nat.reduceSub, Nat.reduceAdd, Int.reduceEq, Int.reduceLT, Int.reduceLE, Int.reduceAdd, rs, c_rOk, ok_none hf, List.length_map, hlt', hr']
theorem c_rName2 (hlen : l.length ≤ LM) (s : PS) (H : Heap) : calls Tryz.prog cfg 60 [.agg (cS l en s)] H =
    some (.ret (.tup [.agg (cS l en (nameP l en s).1), .lit (.string (ba (nameP l en s).2))]) H) := by
  refine calls_pure (fn := Tryz.f60) rfl rfl rfl rfl rfl ?_ H
  have rs : Tryz.f60.results.toList = [.cell 2 80, .tmp 3] := rfl
  cases h : isName l s with
  | true =>
    have hlt := isName_at h
    have hw := at_wrap hlen hlt
    have hr : nameP l en s = (s.adv, (l.getD s.at_ default).text) := by simp only [nameP, h, text]
    have ha := iad_encG (t := 66) (bs := 32) (o := .sh) hlt
    have hwb : IntKind.wrap .i64 (((s.at_ + 1 : Nat) : Int) - 1) = (s.at_ : Nat) := by unfold LM at hlen; rw [wrap64 (by omega) (by omega)]; omega
    have hadv : s.adv.at_ = s.at_ + 1 := rfl
    rw [hr]
    generalize l.getD s.at_ default = x at ha
    simp only [go_sem, Nat.reduceBEq, Nat.reduceLeDiff, Nat.reduceEqDiff, Nat.reduceSub, Nat.reduceAdd, Int.reduceEq, Int.reduceLT, Int.reduceLE, Int.reduceAdd, rs, c_rIsName, h, hw]
    refine W_draw [(0, 2), (0, 4), (2, 4), (0, 8), (2, 9), (4, 9), (8, 9)] (by kernel_rfl) ?_
    simp only [go_sem, Nat.reduceBEq, Nat.reduceLeDiff, Nat.reduceEqDiff, Nat.reduceSub, Nat.reduceAdd, Int.reduceEq, Int.reduceLT, Int.reduceLE, Int.reduceAdd, rs, hadv, hwb, ha, encG]
  | false =>
    have hr : nameP l en s = (pfail l en s 0, []) := by simp only [nameP, h]
    rw [hr]
    simp only [go_sem, Nat.reduceBEq, Nat.reduceLeDiff, Nat.reduceEqDiff, Nat.reduceSub, Nat.reduceAdd, Int.reduceEq, Int.reduceLT, Int.reduceLE, Int.reduceAdd, rs, c_rIsName, h, c_rFail0]
end
end Go.Proofs.YtghhkbigmmjanaaGreatDoor.VA
