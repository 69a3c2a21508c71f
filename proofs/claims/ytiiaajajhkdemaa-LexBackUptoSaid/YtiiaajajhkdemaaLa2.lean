/- What is proved: facts on this program's types, which of its functions the abstract interpreter (VA) runs, and what the lexer's functions of one byte answer, each of the 256 bytes looked at by the kernel. No condition. -/
import Derived.Test.YtiiaajajhkdemaaLa1
import Derived.Test.YtiiaajajhkdemaaProg
import Derived.Lib.Join
namespace Go.Proofs.Ytiiaajajhkdemaa.VA
open Go Go.RowKit
set_option linter.unusedSimpArgs false

/-! ### types -/
@[go_sem] theorem und_int : Try.prog.underlying 3 = some (.int .i64) := by kernel_rfl
@[go_sem] theorem und_bool : Try.prog.underlying 4 = some .bool := by kernel_rfl
@[go_sem] theorem und_u8 : Try.prog.underlying 5 = some (.int .u8) := by kernel_rfl
@[go_sem] theorem und_string : Try.prog.underlying 9 = some .string := by kernel_rfl
@[go_sem] theorem el_tok : tElem Try.prog 22 = some (37, 3, 32) := by kernel_rfl
@[go_sem] theorem el_str : tElem Try.prog 35 = some (9, 1, 16) := by kernel_rfl
@[go_sem] theorem fl_tok0 : tField Try.prog 37 0 = some (0, 1, false) := by kernel_rfl
@[go_sem] theorem fl_tok1 : tField Try.prog 37 1 = some (1, 1, false) := by kernel_rfl
@[go_sem] theorem fl_tok2 : tField Try.prog 37 2 = some (2, 1, false) := by kernel_rfl
@[go_sem] theorem fl_fault0 : tField Try.prog 25 0 = some (0, 1, false) := by kernel_rfl
@[go_sem] theorem fl_fault1 : tField Try.prog 25 1 = some (1, 1, false) := by kernel_rfl
@[go_sem] theorem bl_tok : tBuild Try.prog 37 = some ([(0, 1), (1, 1), (2, 1)], [.lit (.int .i64 0), .lit (.string ⟨#[]⟩), .lit (.int .i64 0)]) := by kernel_rfl
@[go_sem] theorem bl_fault : tBuild Try.prog 25 = some ([(0, 1), (1, 1)], [.lit (.int .i64 0), .lit (.int .i64 0)]) := by kernel_rfl
@[go_sem] theorem zr_tok : tZero Try.prog 37 = some [.lit (.int .i64 0), .lit (.string ⟨#[]⟩), .lit (.int .i64 0)] := by kernel_rfl
@[go_sem] theorem zr_fault : tZero Try.prog 25 = some [.lit (.int .i64 0), .lit (.int .i64 0)] := by kernel_rfl
@[go_sem] theorem zo_tok : zeroOk Try.prog 37 3 = true := by kernel_rfl
@[go_sem] theorem zo_str : zeroOk Try.prog 9 1 = true := by kernel_rfl
@[go_sem] theorem sz_tok : tSize Try.prog 37 = some 3 := by kernel_rfl
@[go_sem] theorem sz_fault : tSize Try.prog 25 = some 2 := by kernel_rfl
@[go_sem] theorem sz_int : tSize Try.prog 3 = some 1 := by kernel_rfl
@[go_sem] theorem sz_str : tSize Try.prog 9 = some 1 := by kernel_rfl
@[go_sem] theorem ag_tok : tAgg Try.prog 37 = some true := by kernel_rfl
@[go_sem] theorem ag_fault : tAgg Try.prog 25 = some true := by kernel_rfl
@[go_sem] theorem ag_int : tAgg Try.prog 3 = some false := by kernel_rfl
@[go_sem] theorem ag_str : tAgg Try.prog 9 = some false := by kernel_rfl

/-! ### the functions -/
def idxByte : List UInt8 → Nat → Nat → Int
  | [], _, _ => -1
  | x :: l, c, i => if x.toNat = c then (i : Int) else idxByte l c (i + 1)
def tIndexByte : List AV → Option AV
  | [.lit (.string s), .lit (.int .u8 c)] => if c.toNat < 256 then some (.lit (.int .i64 (idxByte s.data.toList c.toNat 0))) else none
  | _ => none
def strs : List (List AV) → Option (List (List UInt8))
  | [] => some []
  | [.lit (.string s)] :: r => (strs r).map (s.data.toList :: ·)
  | _ => none
def joined (sep : List UInt8) (l : List (List UInt8)) : List UInt8 := Lib.join l sep
def tJoin : List AV → Option AV
  | [.sl _ es, .lit (.string sep)] =>
    match strs es with
    | some l => if (joined sep.data.toList l).length ≤ 140737488355328 ∧ l.length ≤ 140737488355328 then some (.lit (.string (ba (joined sep.data.toList l)))) else none
    | none => none
  | _ => none
def runs : List FuncId := [
  3, 4, 5, 6, 7, 10,
  8, 9, 11, 12, 13, 14, 15, 28,
  16, 17, 18, 19, 20, 21,
  22, 23, 24, 25, 26]
noncomputable def cfg : Cfg where
  fn := fun f => if runs.contains f = true then Try.prog.funcs[f]? else none
  imp := fun _ => false
  told := fun f => if f = 29 then some tIndexByte else if f = 27 then some tJoin else none
def fnOk (P : Program) (f : FuncId) : Bool :=
  match P.funcs[f]? with
  | some fn => !(fn.name == "runtime.NumGoroutine") && (match fn.body with | some code => codeOk fn.ntmps code | none => true)
  | none => true
theorem runs_ok : runs.all (fnOk Try.prog) = true := by kernel_rfl

/-! ### functions of one byte -/
theorem call_any {P : Program} {c : Cfg} {k : Nat} {f : FuncId} {args : List AV} {v : AV} {H H' : Heap} (hi : c.imp f = false) (h : call P c k f args H = some (.ret v H')) (H2 : Heap) : calls P c f args H2 = some (.ret v H2) := by
  refine calls_iff.2 ⟨k, ?_⟩
  cases k with
  | zero => simp [call] at h
  | succ k =>
    simp only [call] at h ⊢
    cases ht : c.told f with
    | some g =>
      rw [ht] at h
      simp only at h ⊢
      cases hg : g (sanL args) with
      | none => rw [hg] at h; cases h
      | some u => rw [hg] at h; simp at h; simp [h.1]
    | none =>
      rw [ht] at h
      simp only at h ⊢
      cases hf : c.fn f with
      | none => rw [hf] at h; cases h
      | some fn =>
        rw [hf] at h
        simp only [hi] at h ⊢
        split at h
        · simp at h
          simp [h.1]
        · cases h
theorem cls_1 {n : Nat} (h : n = 9 ∨ n = 10 ∨ n = 13 ∨ n = 32) : cls n = 1 := by rcases h with rfl | rfl | rfl | rfl <;> rfl
theorem cls_2 {n : Nat} (h : n = 35) : cls n = 2 := by subst h; rfl
theorem cls_3 {n : Nat} (h : (97 ≤ n ∧ n ≤ 122) ∨ (65 ≤ n ∧ n ≤ 90)) : cls n = 3 := by
  have h1 : isBlank n = false := by simp [isBlank]; omega
  have h2 : (n == 35) = false := by simp; omega
  have h3 : isLetter n = true := by simp [isLetter]; omega
  simp [cls, h1, h2, h3]
theorem cls_4 {n : Nat} (h : 48 ≤ n ∧ n ≤ 57) : cls n = 4 := by
  have h1 : isBlank n = false := by simp [isBlank]; omega
  have h2 : (n == 35) = false := by simp; omega
  have h3 : isLetter n = false := by simp [isLetter]; omega
  have h4 : isDigit n = true := by simp [isDigit]; omega
  simp [cls, h1, h2, h3, h4]
theorem cls_5 {n : Nat} (h : ¬ (n = 9 ∨ n = 10 ∨ n = 13 ∨ n = 32)) (h2 : n ≠ 35) (h3 : ¬ ((97 ≤ n ∧ n ≤ 122) ∨ (65 ≤ n ∧ n ≤ 90))) (h4 : ¬ (48 ≤ n ∧ n ≤ 57)) : cls n = if isSign n then 5 else 0 := by
  have h1 : isBlank n = false := by simp [isBlank]; omega
  have h2 : (n == 35) = false := by simp; omega
  have h3 : isLetter n = false := by simp [isLetter]; omega
  have h4 : isDigit n = false := by simp [isDigit]; omega
  simp [cls, h1, h2, h3, h4]
theorem idx_sign {n : Nat} : (0 ≤ idxByte [123, 125, 40, 41, 44, 59, 46, 61, 43, 45, 42, 60, 38, 58] n 0) ↔ isSign n = true := by
  have key : ∀ (l : List UInt8) (i : Nat), (0 ≤ idxByte l n i) ↔ (l.map (·.toNat)).contains n = true := by
    intro l
    induction l with
    | nil => intro i; simp [idxByte]
    | cons x l ih =>
      intro i
      simp only [idxByte, List.map_cons, List.contains_cons]
      by_cases hx : x.toNat = n
      · rw [if_pos hx]
        have : (n == x.toNat) = true := by simp [hx]
        simp [this]
      · rw [if_neg hx]
        have : (n == x.toNat) = false := by simp; omega
        rw [this, Bool.false_or]
        exact ih _
  exact key _ 0
theorem c_index (l : List UInt8) (n : Nat) (hn : n < 256) (H : Heap) : calls Try.prog cfg 29 [.lit (.string (ba l)), .lit (.int .u8 (n : Nat))] H = some (.ret (.lit (.int .i64 (idxByte l n 0))) H) :=
  calls_told (h := tIndexByte) rfl (by simp [sanL, san, tIndexByte, hn]) H
set_option maxRecDepth 10000 in
theorem c_of (b : UInt8) (H : Heap) : calls Try.prog cfg 16 [.lit (.int .u8 (b.toNat : Nat))] H = some (.ret (.lit (.int .i64 (cls b.toNat : Nat))) H) := by
  refine calls_pure (fn := Try.f16) rfl rfl rfl rfl rfl ?_ H
  have hn : b.toNat < 256 := b.toNat_lt
  generalize b.toNat = n at hn
  by_cases h1 : ((n : Nat) : Int) = 9
  · simp only [go_sem, Nat.reduceBEq, Nat.reduceLeDiff, Nat.reduceEqDiff, true_and, and_true, ite_true, if_false, Int.cast_ofNat_Int, eq_self, Nat.add_assoc, Option.some.injEq, Int.reduceEq, Int.reduceLT, Int.reduceLE, Int.reduceAdd, Nat.reduceSub, Nat.reduceAdd, decide_true, decide_false, Bool.not_true, Bool.not_false, List.size_toArray, List.length_cons, List.length_nil, h1]; rw [cls_1 (by omega)]; rfl
  by_cases h2 : ((n : Nat) : Int) = 10
  · simp only [go_sem, Nat.reduceBEq, Nat.reduceLeDiff, Nat.reduceEqDiff, true_and, and_true, ite_true, if_false, Int.cast_ofNat_Int, eq_self, Nat.add_assoc, Option.some.injEq, Int.reduceEq, Int.reduceLT, Int.reduceLE, Int.reduceAdd, Nat.reduceSub, Nat.reduceAdd, decide_true, decide_false, Bool.not_true, Bool.not_false, List.size_toArray, List.length_cons, List.length_nil, h2]; rw [cls_1 (by omega)]; rfl
  by_cases h3 : ((n : Nat) : Int) = 13
  · simp only [go_sem, Nat.reduceBEq, Nat.reduceLeDiff, Nat.reduceEqDiff, true_and, and_true, ite_true, if_false, Int.cast_ofNat_Int, eq_self, Nat.add_assoc, Option.some.injEq, Int.reduceEq, Int.reduceLT, Int.reduceLE, Int.reduceAdd, Nat.reduceSub, Nat.reduceAdd, decide_true, decide_false, Bool.not_true, Bool.not_false, List.size_toArray, List.length_cons, List.length_nil, h3]; rw [cls_1 (by omega)]; rfl
  by_cases h4 : ((n : Nat) : Int) = 32
  · simp only [go_sem, Nat.reduceBEq, Nat.reduceLeDiff, Nat.reduceEqDiff, true_and, and_true, ite_true, if_false, Int.cast_ofNat_Int, eq_self, Nat.add_assoc, Option.some.injEq, Int.reduceEq, Int.reduceLT, Int.reduceLE, Int.reduceAdd, Nat.reduceSub, Nat.reduceAdd, decide_true, decide_false, Bool.not_true, Bool.not_false, List.size_toArray, List.length_cons, List.length_nil, h4]; rw [cls_1 (by omega)]; rfl
  by_cases h5 : ((n : Nat) : Int) = 35
  · simp only [go_sem, Nat.reduceBEq, Nat.reduceLeDiff, Nat.reduceEqDiff, true_and, and_true, ite_true, if_false, Int.cast_ofNat_Int, eq_self, Nat.add_assoc, Option.some.injEq, Int.reduceEq, Int.reduceLT, Int.reduceLE, Int.reduceAdd, Nat.reduceSub, Nat.reduceAdd, decide_true, decide_false, Bool.not_true, Bool.not_false, List.size_toArray, List.length_cons, List.length_nil, h5]; rw [cls_2 (by omega)]; rfl
  have fin3 : ((97 ≤ n ∧ n ≤ 122) ∨ (65 ≤ n ∧ n ≤ 90)) → (some (AV.lit (.int .i64 3)) : Option AV) = some (.lit (.int .i64 (cls n : Nat))) := fun h => by rw [cls_3 h]; rfl
  have fin4 : (48 ≤ n ∧ n ≤ 57) → (some (AV.lit (.int .i64 4)) : Option AV) = some (.lit (.int .i64 (cls n : Nat))) := fun h => by rw [cls_4 h]; rfl
  have fin5 : ¬ ((97 ≤ n ∧ n ≤ 122) ∨ (65 ≤ n ∧ n ≤ 90)) → ¬ (48 ≤ n ∧ n ≤ 57) → isSign n = true → (some (AV.lit (.int .i64 5)) : Option AV) = some (.lit (.int .i64 (cls n : Nat))) := fun h h' hs => by
    rw [cls_5 (by omega) (by omega) h h', if_pos hs]; rfl
  have fin0 : ¬ ((97 ≤ n ∧ n ≤ 122) ∨ (65 ≤ n ∧ n ≤ 90)) → ¬ (48 ≤ n ∧ n ≤ 57) → ¬ isSign n = true → (some (AV.lit (.int .i64 0)) : Option AV) = some (.lit (.int .i64 (cls n : Nat))) := fun h h' hs => by
    rw [cls_5 (by omega) (by omega) h h', if_neg hs]; rfl
  by_cases h6 : (97 : Int) ≤ (n : Nat)
  · by_cases h7 : ((n : Nat) : Int) ≤ 122
    · simp only [go_sem, Nat.reduceBEq, Nat.reduceLeDiff, Nat.reduceEqDiff, true_and, and_true, ite_true, if_false, Int.cast_ofNat_Int, eq_self, Nat.add_assoc, Option.some.injEq, Int.reduceEq, Int.reduceLT, Int.reduceLE, Int.reduceAdd, Nat.reduceSub, Nat.reduceAdd, decide_true, decide_false, Bool.not_true, Bool.not_false, List.size_toArray, List.length_cons, List.length_nil, h1, h2, h3, h4, h5, h6, h7]; exact fin3 (by omega)
    · have h8 : (65 : Int) ≤ (n : Nat) := by omega
      have h9 : ¬ ((n : Nat) : Int) ≤ 90 := by omega
      have h10 : (48 : Int) ≤ (n : Nat) := by omega
      have h11 : ¬ ((n : Nat) : Int) ≤ 57 := by omega
      by_cases hs : 0 ≤ idxByte [123, 125, 40, 41, 44, 59, 46, 61, 43, 45, 42, 60, 38, 58] n 0
      · simp only [go_sem, Nat.reduceBEq, Nat.reduceLeDiff, Nat.reduceEqDiff, true_and, and_true, ite_true, if_false, Int.cast_ofNat_Int, eq_self, Nat.add_assoc, Option.some.injEq, Int.reduceEq, Int.reduceLT, Int.reduceLE, Int.reduceAdd, Nat.reduceSub, Nat.reduceAdd, decide_true, decide_false, Bool.not_true, Bool.not_false, List.size_toArray, List.length_cons, List.length_nil, h1, h2, h3, h4, h5, h6, h7, h8, h9, h10, h11, c_index _ _ hn, hs]; exact fin5 (by omega) (by omega) (idx_sign.1 hs)
      · simp only [go_sem, Nat.reduceBEq, Nat.reduceLeDiff, Nat.reduceEqDiff, true_and, and_true, ite_true, if_false, Int.cast_ofNat_Int, eq_self, Nat.add_assoc, Option.some.injEq, Int.reduceEq, Int.reduceLT, Int.reduceLE, Int.reduceAdd, Nat.reduceSub, Nat.reduceAdd, decide_true, decide_false, Bool.not_true, Bool.not_false, List.size_toArray, List.length_cons, List.length_nil, h1, h2, h3, h4, h5, h6, h7, h8, h9, h10, h11, c_index _ _ hn, hs]; exact fin0 (by omega) (by omega) (fun h => hs (idx_sign.2 h))
  · by_cases h8 : (65 : Int) ≤ (n : Nat)
    · by_cases h9 : ((n : Nat) : Int) ≤ 90
      · simp only [go_sem, Nat.reduceBEq, Nat.reduceLeDiff, Nat.reduceEqDiff, true_and, and_true, ite_true, if_false, Int.cast_ofNat_Int, eq_self, Nat.add_assoc, Option.some.injEq, Int.reduceEq, Int.reduceLT, Int.reduceLE, Int.reduceAdd, Nat.reduceSub, Nat.reduceAdd, decide_true, decide_false, Bool.not_true, Bool.not_false, List.size_toArray, List.length_cons, List.length_nil, h1, h2, h3, h4, h5, h6, h8, h9]; exact fin3 (by omega)
      · have h10 : (48 : Int) ≤ (n : Nat) := by omega
        have h11 : ¬ ((n : Nat) : Int) ≤ 57 := by omega
        by_cases hs : 0 ≤ idxByte [123, 125, 40, 41, 44, 59, 46, 61, 43, 45, 42, 60, 38, 58] n 0
        · simp only [go_sem, Nat.reduceBEq, Nat.reduceLeDiff, Nat.reduceEqDiff, true_and, and_true, ite_true, if_false, Int.cast_ofNat_Int, eq_self, Nat.add_assoc, Option.some.injEq, Int.reduceEq, Int.reduceLT, Int.reduceLE, Int.reduceAdd, Nat.reduceSub, Nat.reduceAdd, decide_true, decide_false, Bool.not_true, Bool.not_false, List.size_toArray, List.length_cons, List.length_nil, h1, h2, h3, h4, h5, h6, h8, h9, h10, h11, c_index _ _ hn, hs]; exact fin5 (by omega) (by omega) (idx_sign.1 hs)
        · simp only [go_sem, Nat.reduceBEq, Nat.reduceLeDiff, Nat.reduceEqDiff, true_and, and_true, ite_true, if_false, Int.cast_ofNat_Int, eq_self, Nat.add_assoc, Option.some.injEq, Int.reduceEq, Int.reduceLT, Int.reduceLE, Int.reduceAdd, Nat.reduceSub, Nat.reduceAdd, decide_true, decide_false, Bool.not_true, Bool.not_false, List.size_toArray, List.length_cons, List.length_nil, h1, h2, h3, h4, h5, h6, h8, h9, h10, h11, c_index _ _ hn, hs]; exact fin0 (by omega) (by omega) (fun h => hs (idx_sign.2 h))
    · by_cases h10 : (48 : Int) ≤ (n : Nat)
      · by_cases h11 : ((n : Nat) : Int) ≤ 57
        · simp only [go_sem, Nat.reduceBEq, Nat.reduceLeDiff, Nat.reduceEqDiff, true_and, and_true, ite_true, if_false, Int.cast_ofNat_Int, eq_self, Nat.add_assoc, Option.some.injEq, Int.reduceEq, Int.reduceLT, Int.reduceLE, Int.reduceAdd, Nat.reduceSub, Nat.reduceAdd, decide_true, decide_false, Bool.not_true, Bool.not_false, List.size_toArray, List.length_cons, List.length_nil, h1, h2, h3, h4, h5, h6, h8, h10, h11]; exact fin4 (by omega)
        · by_cases hs : 0 ≤ idxByte [123, 125, 40, 41, 44, 59, 46, 61, 43, 45, 42, 60, 38, 58] n 0
          · simp only [go_sem, Nat.reduceBEq, Nat.reduceLeDiff, Nat.reduceEqDiff, true_and, and_true, ite_true, if_false, Int.cast_ofNat_Int, eq_self, Nat.add_assoc, Option.some.injEq, Int.reduceEq, Int.reduceLT, Int.reduceLE, Int.reduceAdd, Nat.reduceSub, Nat.reduceAdd, decide_true, decide_false, Bool.not_true, Bool.not_false, List.size_toArray, List.length_cons, List.length_nil, h1, h2, h3, h4, h5, h6, h8, h10, h11, c_index _ _ hn, hs]; exact fin5 (by omega) (by omega) (idx_sign.1 hs)
          · simp only [go_sem, Nat.reduceBEq, Nat.reduceLeDiff, Nat.reduceEqDiff, true_and, and_true, ite_true, if_false, Int.cast_ofNat_Int, eq_self, Nat.add_assoc, Option.some.injEq, Int.reduceEq, Int.reduceLT, Int.reduceLE, Int.reduceAdd, Nat.reduceSub, Nat.reduceAdd, decide_true, decide_false, Bool.not_true, Bool.not_false, List.size_toArray, List.length_cons, List.length_nil, h1, h2, h3, h4, h5, h6, h8, h10, h11, c_index _ _ hn, hs]; exact fin0 (by omega) (by omega) (fun h => hs (idx_sign.2 h))
      · by_cases hs : 0 ≤ idxByte [123, 125, 40, 41, 44, 59, 46, 61, 43, 45, 42, 60, 38, 58] n 0
        · simp only [go_sem, Nat.reduceBEq, Nat.reduceLeDiff, Nat.reduceEqDiff, true_and, and_true, ite_true, if_false, Int.cast_ofNat_Int, eq_self, Nat.add_assoc, Option.some.injEq, Int.reduceEq, Int.reduceLT, Int.reduceLE, Int.reduceAdd, Nat.reduceSub, Nat.reduceAdd, decide_true, decide_false, Bool.not_true, Bool.not_false, List.size_toArray, List.length_cons, List.length_nil, h1, h2, h3, h4, h5, h6, h8, h10, c_index _ _ hn, hs]; exact fin5 (by omega) (by omega) (idx_sign.1 hs)
        · simp only [go_sem, Nat.reduceBEq, Nat.reduceLeDiff, Nat.reduceEqDiff, true_and, and_true, ite_true, if_false, Int.cast_ofNat_Int, eq_self, Nat.add_assoc, Option.some.injEq, Int.reduceEq, Int.reduceLT, Int.reduceLE, Int.reduceAdd, Nat.reduceSub, Nat.reduceAdd, decide_true, decide_false, Bool.not_true, Bool.not_false, List.size_toArray, List.length_cons, List.length_nil, h1, h2, h3, h4, h5, h6, h8, h10, c_index _ _ hn, hs]; exact fin0 (by omega) (by omega) (fun h => hs (idx_sign.2 h))
/-! ### what the classes tell -/
theorem cls3_iff (n : Nat) : cls n = 3 ↔ isLetter n = true := by
  constructor
  · intro h
    unfold cls at h
    repeat' split at h
    all_goals first | omega | assumption
  · intro h; exact cls_3 (by simp [isLetter] at h; omega)
theorem cls4_iff (n : Nat) : cls n = 4 ↔ isDigit n = true := by
  constructor
  · intro h
    unfold cls at h
    repeat' split at h
    all_goals first | omega | assumption
  · intro h; exact cls_4 (by simp [isDigit] at h; omega)
theorem c_inner (b : UInt8) (H : Heap) : calls Try.prog cfg 19 [.lit (.int .u8 (b.toNat : Nat))] H = some (.ret (.lit (.bool (inWord b.toNat))) H) := by
  refine calls_pure (fn := Try.f19) rfl rfl rfl rfl rfl ?_ H
  by_cases h1 : ((cls b.toNat : Nat) : Int) = 3
  · have hw : inWord b.toNat = true := by have := (cls3_iff b.toNat).1 (by omega); simp [inWord, this]
    simp only [go_sem, Nat.reduceBEq, Nat.reduceLeDiff, Nat.reduceEqDiff, true_and, and_true, ite_true, if_false, Int.cast_ofNat_Int, eq_self, Nat.add_assoc, Option.some.injEq, Int.reduceEq, Int.reduceLT, Int.reduceLE, Int.reduceAdd, Nat.reduceSub, Nat.reduceAdd, decide_true, decide_false, Bool.not_true, Bool.not_false, List.size_toArray, List.length_cons, List.length_nil, c_of, h1, hw] <;> rfl
  · have hl : isLetter b.toNat = false := by have := cls3_iff b.toNat; cases h : isLetter b.toNat with
      | false => rfl
      | true => exact absurd (this.2 h) (by omega)
    by_cases h2 : ((cls b.toNat : Nat) : Int) = 4
    · have hw : inWord b.toNat = true := by have := (cls4_iff b.toNat).1 (by omega); simp [inWord, this]
      simp only [go_sem, Nat.reduceBEq, Nat.reduceLeDiff, Nat.reduceEqDiff, true_and, and_true, ite_true, if_false, Int.cast_ofNat_Int, eq_self, Nat.add_assoc, Option.some.injEq, Int.reduceEq, Int.reduceLT, Int.reduceLE, Int.reduceAdd, Nat.reduceSub, Nat.reduceAdd, decide_true, decide_false, Bool.not_true, Bool.not_false, List.size_toArray, List.length_cons, List.length_nil, c_of, h2, hw] <;> rfl
    · have hd : isDigit b.toNat = false := by have := cls4_iff b.toNat; cases h : isDigit b.toNat with
        | false => rfl
        | true => exact absurd (this.2 h) (by omega)
      by_cases h3 : ((b.toNat : Nat) : Int) = 95
      · have hw : inWord b.toNat = true := by have : b.toNat = 95 := by omega
                                              simp [inWord, this]
        have d3 : decide (((b.toNat : Nat) : Int) = 95) = true := by simp [h3]
        simp only [go_sem, Nat.reduceBEq, Nat.reduceLeDiff, Nat.reduceEqDiff, true_and, and_true, ite_true, if_false, Int.cast_ofNat_Int, eq_self, Nat.add_assoc, Option.some.injEq, Int.reduceEq, Int.reduceLT, Int.reduceLE, Int.reduceAdd, Nat.reduceSub, Nat.reduceAdd, decide_true, decide_false, Bool.not_true, Bool.not_false, List.size_toArray, List.length_cons, List.length_nil, c_of, h1, h2, d3, hw] <;> rfl
      · have hw : inWord b.toNat = false := by have : (b.toNat == 95) = false := by simp; omega
                                               simp [inWord, hl, hd, this]
        simp only [go_sem, Nat.reduceBEq, Nat.reduceLeDiff, Nat.reduceEqDiff, true_and, and_true, ite_true, if_false, Int.cast_ofNat_Int, eq_self, Nat.add_assoc, Option.some.injEq, Int.reduceEq, Int.reduceLT, Int.reduceLE, Int.reduceAdd, Nat.reduceSub, Nat.reduceAdd, decide_true, decide_false, Bool.not_true, Bool.not_false, List.size_toArray, List.length_cons, List.length_nil, c_of, h1, h2, h3, hw] <;> rfl
theorem c_lex1 (b : UInt8) (H : Heap) : calls Try.prog cfg 18 [.lit (.int .u8 (b.toNat : Nat))] H = some (.ret (.lit (.bool (notNl b.toNat))) H) := by
  refine calls_pure (fn := Try.f18) rfl rfl rfl rfl rfl ?_ H
  have h : notNl b.toNat = !decide (((b.toNat : Nat) : Int) = 10) := by
    by_cases h : b.toNat = 10
    · simp [notNl, h]
    · have : ¬ ((b.toNat : Nat) : Int) = 10 := by omega
      simp [notNl, h, this]
  simp only [go_sem, Nat.reduceBEq, Nat.reduceLeDiff, Nat.reduceEqDiff, true_and, and_true, ite_true, if_false, Int.cast_ofNat_Int, eq_self, Nat.add_assoc, Option.some.injEq, Int.reduceEq, Int.reduceLT, Int.reduceLE, Int.reduceAdd, Nat.reduceSub, Nat.reduceAdd, decide_true, decide_false, Bool.not_true, Bool.not_false, List.size_toArray, List.length_cons, List.length_nil, h] <;> rfl
theorem c_lex2 (b : UInt8) (H : Heap) : calls Try.prog cfg 20 [.lit (.int .u8 (b.toNat : Nat))] H = some (.ret (.lit (.bool (isDigit b.toNat))) H) := by
  refine calls_pure (fn := Try.f20) rfl rfl rfl rfl rfl ?_ H
  have h : isDigit b.toNat = decide (((cls b.toNat : Nat) : Int) = 4) := by
    have h0 := cls4_iff b.toNat
    cases h : isDigit b.toNat with
    | true => have := h0.2 h; simp [this]
    | false =>
      have : ¬ ((cls b.toNat : Nat) : Int) = 4 := fun h1 => by rw [h0.1 (by omega)] at h; cases h
      simp [this]
  simp only [go_sem, Nat.reduceBEq, Nat.reduceLeDiff, Nat.reduceEqDiff, true_and, and_true, ite_true, if_false, Int.cast_ofNat_Int, eq_self, Nat.add_assoc, Option.some.injEq, Int.reduceEq, Int.reduceLT, Int.reduceLE, Int.reduceAdd, Nat.reduceSub, Nat.reduceAdd, decide_true, decide_false, Bool.not_true, Bool.not_false, List.size_toArray, List.length_cons, List.length_nil, c_of, h] <;> rfl
end Go.Proofs.Ytiiaajajhkdemaa.VA
